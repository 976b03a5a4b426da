/- TriePlays: the walk. -/
import Derived.Test.YteaadpgammbdgaaPlaysRow
import Derived.Deep.DeepCutAuto
import Derived.Deep.CutBlock
import Derived.StillTailTactics
import Derived.Deep.RegionHeld3
namespace Go.Proofs.Yteaadpgammbdgaa.PA
open Go.RowKit Go.Shelf Go.Proofs.YteaadpgammbdgaaW.PrintWords Go.Proofs.YteaadpgammbdgaaW.PrintLast Go.Proofs.YteaadpgammbdgaaW.PrintMore
set_option linter.unusedVariables false
set_option linter.unusedSimpArgs false

abbrev Stp := S59
def stp (l : List Stp) (k : Nat) : Stp := l.getD k z59
theorem row_step {w : World} {A : Option Addr} {l : List Stp} (h : Kd.C k59 w A l.length l) {k : Nat} (hk : k < l.length) :
    ∃ b off A' c', A = some ⟨b, off, none⟩ ∧ w.cell? ⟨b, off + k * 2, none⟩ = some (.int .i64 (stp l k).f0) ∧ w.cell? ⟨b, off + k * 2 + 1, none⟩ = some (.slice A' (stp l k).f1.length c') ∧ (stp l k).f1.length ≤ c' ∧ Kd.C (Kd.int .i32) w A' (stp l k).f1.length (stp l k).f1 := by
  obtain ⟨b, off, rfl, hb⟩ := C_plain h (by omega) (by decide)
  obtain ⟨ad, A', c', e, h1, h2, h3, h4⟩ := at_T59 h (k : Int) (by omega) (by omega)
  cases e
  simp only [Int.toNat_natCast, add_none] at h1 h2
  have e2 : rd_T59 l (k : Int) = stp l k := by unfold rd_T59 stp; rw [Int.toNat_natCast]
  rw [e2] at h1 h2 h3 h4
  exact ⟨b, off, A', c', rfl, h1, h2, h3, h4⟩
theorem stp_mem {l : List Stp} {k : Nat} (hk : k < l.length) : stp l k ∈ l := by
  have : stp l k = l[k] := by simp [stp, List.getD_eq_getElem?_getD, hk]
  rw [this]; exact List.getElem_mem _
set_option maxRecDepth 100000 in
set_option maxHeartbeats 16000000 in
theorem plays_calls (A A1 : Option Addr) (c c1 : Nat) (l : List Stp) (text : List Int) (tz : Int) (w : World) (hr : Kd.C k59 w A l.length l) (hr1 : Kd.C (Kd.int .i32) w A1 text.length text) (hc1 : text.length ≤ c1)
    (hz : ∀ s ∈ l, ∀ z ∈ s.f1, (Lit.int .i32 z).wf = true) (hz1 : ∀ z ∈ text, (Lit.int .i32 z).wf = true) (hn : l.length ≤ 50) (hn1 : text.length ≤ 40) :
    Calls Try.prog 10 #[.slice A l.length c, .slice A1 text.length c1, .int .i64 tz] w fun e w' => e = .returned (.bool true) ∧ Below w.heap.size w w' := by
  have d1 : decide ((50 : Int) < (l.length : Int)) = false := decide_eq_false (by omega)
  have d2 : decide (50 < l.length) = false := decide_eq_false (by omega)
  have d3 : decide ((40 : Int) < (text.length : Int)) = false := decide_eq_false (by omega)
  have d4 : decide (40 < text.length) = false := decide_eq_false (by omega)
  have HK := Lib.hid (trie_known w)
  have HR := Lib.hid hr
  have HZ := Lib.hid hz
  have HW := Lib.hid (WordAt.arg hr1 hz1 (by omega))
  clear hr hz hr1 hz1
  go_enter Try.func10, Try.ntmps10
  go_wp2_with fail
  refine HK.out.mono ?_
  rintro e w1 ⟨rfl, hb⟩
  have hS0 := Held.made w w1 hb
  have hnew := new_calls w1
  obtain ⟨W0, e0⟩ : ∃ W0, (((w1.alloc (.map #[] 0)).alloc (.cells #[.map (some w1.heap.size), .bool false] 70)).alloc (.cells #[.pointer (some ⟨w1.heap.size + 1, 0, none⟩), .int .i64 0] 72)) = W0 := ⟨_, rfl⟩
  rw [e0] at hS0 hnew
  have S0 := Lib.hid hS0
  have HNew := Lib.hid hnew
  clear hS0 hnew e0 hb HK
  go_wp2_with fail
  refine HNew.out.mono ?_
  rintro e w' ⟨rfl, rfl⟩
  generalize w1.heap.size + 1 + 1 = tb at S0 ⊢
  clear HNew d1 d2 d3 d4
  go_wp2_with fail
  go_loopw [8, 9] (fun mm ii wr => ∃ (k : Nat) (M : List (List Int)), k ≤ l.length ∧ ii = .int .i64 k ∧ Hid (Held w.heap.size w wr tb (80 * k) M) ∧ Hid (MRow w wr mm M) ∧ Hid (SortedL M) ∧ Hid (∀ u ∈ M, u.length ≤ 30) ∧ M.length ≤ k) (fun _ ii _ => l.length - (intOf ii).toNat)
  case atStart => exact ⟨0, [], Nat.zero_le _, rfl, S0, Lib.hid (MRow.nil w w'), Lib.hid .nil, Lib.hid (fun u hu => by cases hu), Nat.le_refl _⟩
  case round =>
    obtain ⟨k, M, hk, rfl, S, R, HSO, H30, hml⟩ := hrel
    obtain ⟨Am, cm, rfl, hmc⟩ := R.out.form
    by_cases hlt : k < l.length
    · obtain ⟨b, off, A', c', rfl, hc0, hcw, hlc, hC⟩ := row_step HR.out hlt
      have hi1 : (k : Int) < l.length := by omega
      have hwf : ∀ z ∈ (stp l k).f1, (Lit.int .i32 z).wf = true := HZ.out _ (stp_mem hlt)
      generalize (stp l k).f1 = u at hcw hlc hC hwf
      generalize (stp l k).f0 = what at hc0
      have hcr0 := cell_b S.out.below hc0
      have hcr := cell_b S.out.below hcw
      by_cases h30 : 30 < u.length
      · have f1 : decide ((30 : Int) < (u.length : Int)) = true := decide_eq_true (by omega)
        have f2 : decide (30 < u.length) = true := decide_eq_true h30
        have HB := Lib.hid S.out.below
        clear hcw hC hwf hc0
        go_wp2
        go_ret
        exact ⟨rfl, HB.out⟩
      · have f1 : decide ((30 : Int) < (u.length : Int)) = false := decide_eq_false (by omega)
        have f2 : decide (30 < u.length) = false := decide_eq_false h30
        have HU := Lib.hid (WordAt.arg hC hwf (by omega))
        have HC0 := Lib.hid hc0
        have HCW := Lib.hid hcw
        clear hC hwf hc0 hcw hcr0
        go_upto_block 2 with (fail)
        clear f1 f2 hcr
        go_cut [11] (fun s11 wx => ∃ p : Nat, s11 = .int .i64 p ∧ Hid (PosAt M u p) ∧ Hid (Below wr.heap.size wr wx))
        case first =>
          go_wp2
          obtain ⟨wo, rfl⟩ : ∃ wo : World, wo = wr := ⟨_, rfl⟩
          go_loopw [11] (fun aa wx => ∃ p : Nat, p ≤ M.length ∧ aa = .int .i64 p ∧ Hid (∀ j, j < p → ltL (M.getD j []) u = true) ∧ Hid (Below wo.heap.size wo wx)) (fun aa _ => M.length - (intOf aa).toNat)
          case atStart => exact ⟨0, Nat.zero_le _, rfl, Lib.hid (fun j hj => absurd hj (Nat.not_lt_zero _)), Lib.hid (Below.refl _ _)⟩
          case round =>
            obtain ⟨p, hp, rfl, HL, HB⟩ := hrel
            by_cases hpl : p < M.length
            · obtain ⟨g, A2, c2, rfl, hcell, hle, hWx⟩ := R.out.cell hpl
              have hcr := cell_b HB.out hcell
              have hstep : ltL (M.getD p []) u = true → ∀ j, j < p + 1 → ltL (M.getD j []) u = true := fun h j hj => by
                by_cases e : j = p
                · rw [e]; exact h
                · exact HL.out j (by omega)
              have hstop : ltL (M.getD p []) u = false → PosAt M u p := fun h => ⟨hp, HL.out, fun _ => h⟩
              have hxl := hWx.len
              generalize M.getD p [] = x at hcell hle hWx hcr hstep hstop hxl
              obtain ⟨kk, hf⟩ := (less_ev x u hxl).get
              have hb3 : (p : Int) < M.length := by omega
              have HLESS := Lib.hid (hornbooklaw16_less.calls kk A2 c2 x A' c' u (ltL x u) _ (Kd.C_below (hWx.below S.out.below).row HB.out) hle (Kd.C_below (HU.out.below S.out.below).row HB.out) hlc hf)
              clear hcell hle hWx hf hxl
              cases hlx : ltL x u with
              | true =>
                have HST := Lib.hid (hstep hlx)
                rw [hlx] at HLESS
                clear hstep hstop hlx
                go_wp2_with fail
                refine HLESS.out.mono ?_
                rintro e w4 ⟨rfl, hdr⟩
                have HB2 := Lib.hid (HB.out.trans (hdr.below.mono HB.out.size))
                clear hdr HLESS HB hcr
                go_wp2
                go_roundw
                case rel => exact ⟨p + 1, by omega, by go_num, HST, HB2⟩
                case measure => simp [intOf]; omega
              | false =>
                have HST := Lib.hid (hstop hlx)
                rw [hlx] at HLESS
                clear hstep hstop hlx
                go_wp2_with fail
                refine HLESS.out.mono ?_
                rintro e w4 ⟨rfl, hdr⟩
                have HB2 := Lib.hid (HB.out.trans (hdr.below.mono HB.out.size))
                clear hdr HLESS HB hcr
                go_wp2
                go_meet
                case rel => exact ⟨p, rfl, HST, HB2⟩
            · obtain rfl : p = M.length := by omega
              have HST := Lib.hid (PosAt.mk (Nat.le_refl _) HL.out (fun h => absurd h (by omega)) : PosAt M u M.length)
              clear HL
              go_wp2
              go_meet
              case rel => exact ⟨_, rfl, HST, HB⟩
        case rest =>
          obtain ⟨p, rfl, HP, HB⟩ := hcut
          go_upto_region 16 with (fail)
          go_cut [12] (fun s12 wx => s12 = .bool (decide (u ∈ M)) ∧ Hid (Below wr.heap.size wr wx))
          case first =>
            have hthere := HP.out.there HSO.out
            by_cases hpl : p < M.length
            · obtain ⟨g, A2, c2, rfl, hcell, hle, hWx⟩ := R.out.cell hpl
              have hcr := cell_b HB.out hcell
              have hdu : decide (u ∈ M) = decide (M.getD p [] = u) := by rw [decide_eq_decide, hthere]; exact ⟨fun h => h.2, fun h => ⟨hpl, h⟩⟩
              have hxl := hWx.len
              generalize M.getD p [] = x at hcell hle hWx hcr hxl hdu
              obtain ⟨kk, hf⟩ := (same_ev x u hxl (by omega)).get
              have hb3 : (p : Int) < M.length := by omega
              have HSAME := Lib.hid (hornbooklaw16_same.calls kk A2 c2 x A' c' u (decide (x = u)) _ (Kd.C_below (hWx.below S.out.below).row HB.out) hle (Kd.C_below (HU.out.below S.out.below).row HB.out) hlc hf)
              generalize decide (x = u) = bb at HSAME hdu
              have HDU := Lib.hid hdu
              clear hcell hle hWx hf hxl hthere hdu
              go_wp2_with fail
              refine HSAME.out.mono ?_
              rintro e w4 ⟨rfl, hdr⟩
              have HB2 := Lib.hid (HB.out.trans (hdr.below.mono HB.out.size))
              clear hdr HSAME HB hcr
              go_wp2
              go_meet
              case rel => exact ⟨by rw [HDU.out], HB2⟩
            · have hpl2 : p = M.length := by have := HP.out.le; omega
              have hdu : decide (u ∈ M) = false := decide_eq_false (fun h => hpl (hthere.1 h).1)
              have HDU := Lib.hid hdu
              have q1 : decide ((p : Int) < (M.length : Int)) = false := decide_eq_false (by omega)
              have q2 : decide (p < M.length) = false := decide_eq_false hpl
              clear hthere hdu hpl2
              go_wp2
              go_meet
              case rel => exact ⟨by rw [HDU.out], HB⟩
          case rest =>
            obtain ⟨rfl, HB1⟩ := hcut
            have HTH := Lib.hid (HP.out.there HSO.out)
            have hS1 := S.out.step HB1.out
            have hcr0 := cell_b hS1.below HC0.out
            have S1 := Lib.hid hS1
            have R1 := Lib.hid (R.out.keep (.below HB1.out))
            clear hS1 HB S R HB1
            go_upto_if 71 with (fail)
            clear hcr0
            go_cut [8, 12] (fun s8 s12 wx => Hid (Stepped w wx tb (80 * (k + 1)) (k + 1) u (decide (what ≤ 2)) s8))
            case first =>
              have hM0 : [] ∉ M := by obtain ⟨_, _, _, _, _, _, _, q, _⟩ := S1.out; exact q
              by_cases hw : what ≤ 2
              · have g1 : decide (what ≤ 2) = true := decide_eq_true hw
                obtain ⟨A3, c3, wb, hr1, hrow, hBc⟩ := copy_word (c := c') (HU.out.below S1.out.below) (by omega)
                have hadd := (S1.out.step hBc).add (c := c3) (hrow.at HU.out.ok (by omega)) (by omega) (by omega)
                by_cases h0 : u = []
                · have k1 : decide ((0 : Int) < (u.length : Int)) = false := decide_eq_false (by rw [h0]; simp)
                  have k2 : decide (0 < u.length) = false := decide_eq_false (by rw [h0]; simp)
                  have hth : decide (u ∈ M) = false := decide_eq_false (by rw [h0]; exact hM0)
                  rw [show newW M u = false by simp [newW, h0], show addW M u = M by simp [addW, h0]] at hadd
                  have HA := Lib.hid hadd
                  have HT := Lib.hid hth
                  have K2 := Lib.hid k2
                  have KB := Lib.hid hBc
                  clear hadd h0 hM0 hrow hBc
                  go_wp2_with (at_builtin; refine wpList_append_eq rfl (.const (.slice none 0 0)) (.tmp 73) 22 rfl hr1 ?_)
                  refine HA.out.mono ?_
                  rintro e w5 ⟨rfl, hS, hK⟩
                  have S5 := Lib.hid (hS.up (nb' := 80 * (k + 1)) (by omega))
                  have R5 := Lib.hid ((R1.out.keep (.below KB.out)).keep hK)
                  clear hS hK HA hr1
                  go_wp2
                  go_meet
                  case rel => exact Lib.hid (stepped_same S5.out R5.out HSO.out H30.out hml (by rw [HT.out, K2.out, Bool.and_false]))
                · have hpos : 0 < u.length := by cases u with | nil => exact absurd rfl h0 | cons _ _ => simp
                  have k1 : decide ((0 : Int) < (u.length : Int)) = true := decide_eq_true (by omega)
                  have k2 : decide (0 < u.length) = true := decide_eq_true hpos
                  by_cases hm : u ∈ M
                  · have hth : decide (u ∈ M) = true := decide_eq_true hm
                    rw [show newW M u = false by simp [newW, hm], show addW M u = M by simp [addW, hm]] at hadd
                    have HA := Lib.hid hadd
                    have HT := Lib.hid hth
                    have K2 := Lib.hid k2
                    have KB := Lib.hid hBc
                    clear hadd h0 hM0 hrow hBc hm
                    go_wp2_with (at_builtin; refine wpList_append_eq rfl (.const (.slice none 0 0)) (.tmp 73) 22 rfl hr1 ?_)
                    refine HA.out.mono ?_
                    rintro e w5 ⟨rfl, hS, hK⟩
                    have S5 := Lib.hid (hS.up (nb' := 80 * (k + 1)) (by omega))
                    have R5 := Lib.hid ((R1.out.keep (.below KB.out)).keep hK)
                    clear hS hK HA hr1
                    go_wp2
                    go_meet
                    case rel => exact Lib.hid (stepped_same S5.out R5.out HSO.out H30.out hml (by rw [HT.out, K2.out, decide_eq_true hw]; rfl))
                  · have hth : decide (u ∈ M) = false := decide_eq_false hm
                    rw [show newW M u = true by simp [newW, h0, hm], show addW M u = u :: M by simp [addW, h0, hm]] at hadd
                    have HA := Lib.hid hadd
                    have HT := Lib.hid hth
                    have K2 := Lib.hid k2
                    have KB := Lib.hid hBc
                    have HM := Lib.hid hm
                    clear hadd h0 hM0 hrow hBc hm
                    go_wp2_with (at_builtin; refine wpList_append_eq rfl (.const (.slice none 0 0)) (.tmp 73) 22 rfl hr1 ?_)
                    refine HA.out.mono ?_
                    rintro e w5 ⟨rfl, hS, hK⟩
                    have hR5 := (R1.out.keep (.below KB.out)).keep hK
                    have hple := HP.out.le
                    obtain ⟨g, cap, w6, hrA, hcap, hcm2, hcopy⟩ := ins_all (c := c') hR5 hS hple (by omega) HU.out hlc
                    have HCO := Lib.hid hcopy
                    clear hS hK HA hr1 hR5 hcopy hple
                    go_wp2_with (at_builtin; refine wpList_append_eq rfl (.tmp 91) (.tmp 92) 50 rfl hrA ?_)
                    clear hrA
                    have hpI : (p : Int) ≤ (M.length : Int) := by have := HP.out.le; omega
                    have hpl := HP.out.le
                    obtain ⟨w7, hr7, ⟨x7, hx7⟩, hf7, hm7, hH7⟩ := HCO.out (if cap = p + 1 then some ⟨g, 0, none⟩ else some ⟨g, p + 1, none⟩) (cap - (p + 1)) (cap - p) (fun h => by rw [if_neg (by omega)])
                    rw [show M.length + 1 - (p + 1) = M.length - p by omega] at hr7
                    have e1 : IntKind.i64.wrap ((p : Int) + 1) = (p : Int) + 1 := IntWalk.i64_in _ (by omega)
                    have e2 : (0 : Int) ≤ (p : Int) + 1 := by omega
                    have e3 : ((p : Int) + 1).toNat = p + 1 := by omega
                    have e4 : (p : Int) + 1 ≤ (M.length : Int) + 1 := by omega
                    have e5 : (p : Int) ≤ (M.length : Int) + 1 := by omega
                    have e6 : ¬ (cap = p) := by omega
                    have e7 : (p : Int) < (M.length : Int) + 1 := by omega
                    have HM7 := Lib.hid hm7
                    have HH7 := Lib.hid (hH7.up (nb' := 80 * (k + 1)) (by omega))
                    clear hm7 hH7 HCO hpl
                    go_still_tail 7, (by kernel_rfl)
                    change wpList _ _ _ _ _ w6.drew
                    refine wpList_copy_eq rfl (.tmp 97) (.tmp 100) 50 50 rfl hr7 ?_
                    clear hr7 e1 e3
                    generalize (if cap = p + 1 then (some ⟨g, 0, none⟩ : Option Addr) else some ⟨g, p + 1, none⟩) = dq
                    go_wp2
                    go_meet
                    case rel => exact Lib.hid (by rw [decide_eq_true hw]; exact stepped_ins HH7.out HM7.out HSO.out HP.out HM.out H30.out (by omega) (of_decide_eq_true K2.out) hml)
              · have g1 : decide (what ≤ 2) = false := decide_eq_false hw
                have hdr := S1.out.drop (c := c') (HU.out.below S1.out.below) (by omega)
                by_cases hm : u ∈ M
                · have hth : decide (u ∈ M) = true := decide_eq_true hm
                  obtain ⟨hpl, hget⟩ := HTH.out.1 hm
                  rw [hth] at hdr
                  have HA := Lib.hid hdr
                  have HG := Lib.hid hget
                  clear hdr hM0 hget hm
                  go_wp2_with fail
                  refine HA.out.mono ?_
                  rintro e w5 ⟨rfl, hS, hK⟩
                  have hR5 := (R1.out.keep hK).keep (.below (below_dr (Below.refl _ _)))
                  have hS5 := hS.step (below_dr (Below.refl _ _))
                  obtain ⟨g, A2, c2, rfl, _⟩ := hR5.cell hpl
                  by_cases hq : cm = p + 1
                  · subst hq
                    obtain ⟨v6, w6, hrA, hdel⟩ := del_all (c' := 0) hR5 hS5 hpl (by omega)
                    obtain ⟨v7, w7, hrB, hm7, hH7⟩ := hdel ⟨g, 0, none⟩ (fun h => by omega)
                    have HM7 := Lib.hid hm7
                    have HH7 := Lib.hid (hH7.up (nb' := 80 * (k + 1)) (by omega))
                    have hpI : (p : Int) < (M.length : Int) := by omega
                    have e1 : IntKind.i64.wrap ((p : Int) + 1) = (p : Int) + 1 := IntWalk.i64_in _ (by omega)
                    have e2 : (0 : Int) ≤ (p : Int) + 1 := by omega
                    have e3 : ((p : Int) + 1).toNat = p + 1 := by omega
                    have e4 : (p : Int) + 1 ≤ (M.length : Int) := by omega
                    have e5 : (p : Int) ≤ (M.length : Int) := by omega
                    have e7 : (p : Int) ≤ (p : Int) + 1 := by omega
                    rw [show M.length - (p + 1) = 0 by omega] at hrB
                    clear hS hK HA hR5 hS5 hdel hm7 hH7
                    go_wp2
                    go_region_law (first | ((with_reducible refine sel_dst 115 rfl ?_); refine step_append_eq rfl (.const (.slice none 0 0)) (.tmp 114) 50 rfl hrA rfl (by simp [go_sem]) (by simp [go_sem]) ?_) | ((with_reducible refine sel_dst 120 rfl ?_); refine step_append_eq rfl (.tmp 115) (.tmp 119) 50 rfl hrB rfl (by simp [go_sem]) (by simp [go_sem]) ?_))
                    all_goals
                      clear hrA hrB e1 e3
                      go_wp2
                      go_meet
                      case rel => exact Lib.hid (by rw [decide_eq_false (show ¬ what ≤ 2 by omega)]; exact stepped_del HH7.out HM7.out HSO.out hpl HG.out H30.out hml)
                  · skip
                    obtain ⟨v6, w6, hrA, hdel⟩ := del_all (c' := cm - (p + 1)) hR5 hS5 hpl (by omega)
                    obtain ⟨v7, w7, hrB, hm7, hH7⟩ := hdel ⟨g, p + 1, none⟩ (fun _ => rfl)
                    have e6 : ¬ (cm = p) := by omega
                    have HM7 := Lib.hid hm7
                    have HH7 := Lib.hid (hH7.up (nb' := 80 * (k + 1)) (by omega))
                    have hpI : (p : Int) < (M.length : Int) := by omega
                    have e1 : IntKind.i64.wrap ((p : Int) + 1) = (p : Int) + 1 := IntWalk.i64_in _ (by omega)
                    have e2 : (0 : Int) ≤ (p : Int) + 1 := by omega
                    have e3 : ((p : Int) + 1).toNat = p + 1 := by omega
                    have e4 : (p : Int) + 1 ≤ (M.length : Int) := by omega
                    have e5 : (p : Int) ≤ (M.length : Int) := by omega
                    have e7 : (p : Int) ≤ (cm : Int) := by omega
                    clear hS hK HA hR5 hS5 hdel hm7 hH7
                    go_wp2
                    go_region_law (first | ((with_reducible refine sel_dst 115 rfl ?_); refine step_append_eq rfl (.const (.slice none 0 0)) (.tmp 114) 50 rfl hrA rfl (by simp [go_sem]) (by simp [go_sem]) ?_) | ((with_reducible refine sel_dst 120 rfl ?_); refine step_append_eq rfl (.tmp 115) (.tmp 119) 50 rfl hrB rfl (by simp [go_sem]) (by simp [go_sem]) ?_))
                    all_goals
                      clear hrA hrB e1 e3
                      go_wp2
                      go_meet
                      case rel => exact Lib.hid (by rw [decide_eq_false (show ¬ what ≤ 2 by omega)]; exact stepped_del HH7.out HM7.out HSO.out hpl HG.out H30.out hml)
                · have hth : decide (u ∈ M) = false := decide_eq_false hm
                  rw [hth, List.erase_of_not_mem hm] at hdr
                  have HA := Lib.hid hdr
                  have HT := Lib.hid hth
                  clear hdr hM0 hm
                  go_wp2_with fail
                  refine HA.out.mono ?_
                  rintro e w5 ⟨rfl, hS, hK⟩
                  have S5 := Lib.hid (hS.up (nb' := 80 * (k + 1)) (by omega))
                  have R5 := Lib.hid (R1.out.keep hK)
                  clear hS hK HA
                  go_wp2
                  go_meet
                  case rel => exact Lib.hid (stepped_same S5.out R5.out HSO.out H30.out hml (by rw [HT.out, decide_eq_false (show ¬ what ≤ 2 by omega), Bool.false_and]))
            case rest =>
              obtain ⟨M2, hS2, hm2, hs2, h302, hl2, hu2⟩ := hcut.out
              clear hcut
              obtain ⟨Am2, cm2, rfl, hmc2⟩ := hm2.form
              have hml2 : M2.length ≤ 1000 := by omega
              have HA := Lib.hid (hS2.all (by omega))
              have R2 := Lib.hid hm2
              have HSO2 := Lib.hid hs2
              have H302 := Lib.hid h302
              have HU2 := Lib.hid hu2
              clear hS2 hm2 hs2 h302 hu2 S1 R1 HSO H30 HP HTH
              go_wp2_with fail
              refine HA.out.mono ?_
              rintro e w8 ⟨A9, c9, La, rfl, hR9, hp9, hpw9, hS9, hK9⟩
              obtain rfl : La = M2 := sorted_unique hp9 hpw9 HSO2.out
              have R9 := Lib.hid hR9
              have S9 := Lib.hid hS9
              have R3 := Lib.hid (R2.out.keep hK9)
              clear hR9 hp9 hpw9 hS9 hK9 HA R2
              go_upto_region 29 with (fail)
              go_cut [151] (fun s151 wx => s151 = .bool false ∧ Hid (Held w.heap.size w wx tb (80 * (k + 1)) La) ∧ Hid (Keep w8 wx))
              case first =>
                have HHAS := Lib.hid (fun (W : World) (hb : Below w8.heap.size w8 W) => (S9.out.step hb).has (c := c') (HU.out.below (S9.out.step hb).below))
                have HLEN := Lib.hid (fun (W : World) (hb : Below w8.heap.size w8 W) => (S9.out.step hb).len)
                have hc8 := cell_b S9.out.below HC0.out
                have q0 : ((La.length : Int) == (La.length : Int)) = true := by simp
                rw [HU2.out] at HHAS
                clear HU2
                by_cases hw : what ≤ 2
                · have g1 : decide (what ≤ 2) = true := decide_eq_true hw
                  rw [g1, Bool.true_and] at HHAS
                  cases hp0 : decide (0 < u.length) with
                  | true =>
                    rw [hp0] at HHAS
                    have k1 : decide ((0 : Int) < (u.length : Int)) = true := decide_eq_true (by have := of_decide_eq_true hp0; omega)
                    first
                    | (go_region_held3 (fun w' => w'.cell? ⟨b, off + k * 2, none⟩ = some (.int .i64 what))
                          (first
                            | assumption
                            | go_keep)
                          (first
                            | (go_at_call 18; (first | refine (HLEN.out _ (below_dr (Below.refl _ _))).mono ?_ | refine (HLEN.out _ (Below.refl _ _)).mono ?_); rintro e w9 ⟨rfl, rfl⟩)
                            | (go_at_call 29; (first | refine (HHAS.out _ (below_dr (Below.refl _ _))).mono ?_ | refine (HHAS.out _ (Below.refl _ _)).mono ?_); rintro e w9 ⟨rfl, hS10, hK10⟩; have hc10 := cell_b hS10.below HC0.out; have S10 := Lib.hid hS10; have K10 := Lib.hid ((Keep.below (below_dr (Below.refl _ w8))).trans hK10); clear hS10 hK10)))
                    | fail
                    all_goals
                      clear hc8
                      go_wp2
                      go_meet
                      case rel => exact ⟨rfl, S10, K10⟩
                  | false =>
                    rw [hp0] at HHAS
                    have k1 : decide ((0 : Int) < (u.length : Int)) = false := decide_eq_false (by have := of_decide_eq_false hp0; omega)
                    first
                    | (go_region_held3 (fun w' => w'.cell? ⟨b, off + k * 2, none⟩ = some (.int .i64 what))
                          (first
                            | assumption
                            | go_keep)
                          (first
                            | (go_at_call 18; (first | refine (HLEN.out _ (below_dr (Below.refl _ _))).mono ?_ | refine (HLEN.out _ (Below.refl _ _)).mono ?_); rintro e w9 ⟨rfl, rfl⟩)
                            | (go_at_call 29; (first | refine (HHAS.out _ (below_dr (Below.refl _ _))).mono ?_ | refine (HHAS.out _ (Below.refl _ _)).mono ?_); rintro e w9 ⟨rfl, hS10, hK10⟩; have hc10 := cell_b hS10.below HC0.out; have S10 := Lib.hid hS10; have K10 := Lib.hid ((Keep.below (below_dr (Below.refl _ w8))).trans hK10); clear hS10 hK10)))
                    | fail
                    all_goals
                      clear hc8
                      go_wp2
                      go_meet
                      case rel => exact ⟨rfl, S10, K10⟩
                · have g1 : decide (what ≤ 2) = false := decide_eq_false hw
                  rw [g1, Bool.false_and] at HHAS
                  have HL8 := Lib.hid (HLEN.out _ (below_dr (Below.refl _ w8)))
                  have HH8 := Lib.hid (HHAS.out _ (below_dr (Below.refl _ w8)))
                  clear HLEN HHAS
                  refine wp_region_held_drew (S := fun w' => w'.cell? ⟨b, off + k * 2, none⟩ = some (.int .i64 what)) (by kernel_rfl) (by first | assumption | go_keep) (fun hHeld => ?_)
                  refine wpAnyH_take (i := 0) (v := ?_) rfl (by kernel_rfl) (by kernel_rfl) (by kernel_rfl) (fun _ _ _ h => h) (Or.inl ⟨by rfl, ?_⟩) (by assumption) ?_
                  rotate_left
                  · (intro w hSw; (try dsimp only at hSw); go_simp; try with_reducible rfl)
                  try simp only [Act.put, List.getElem_toArray, List.getElem_cons_zero, List.getElem_cons_succ, List.setIfInBounds_toArray, List.set_cons_zero, List.set_cons_succ]
                  refine wpAnyH_take (i := 1) (v := ?_) rfl (by kernel_rfl) (by kernel_rfl) (by kernel_rfl) (fun _ _ _ h => h) (Or.inl ⟨by rfl, ?_⟩) (by assumption) ?_
                  rotate_left
                  · (intro w hSw; (try dsimp only at hSw); go_simp; try with_reducible rfl)
                  try simp only [Act.put, List.getElem_toArray, List.getElem_cons_zero, List.getElem_cons_succ, List.setIfInBounds_toArray, List.set_cons_zero, List.set_cons_succ]
                  refine wpAnyH_take (i := 2) (v := ?_) rfl (by kernel_rfl) (by kernel_rfl) (by kernel_rfl) (fun _ _ _ h => h) (Or.inl ⟨by rfl, ?_⟩) (by assumption) ?_
                  rotate_left
                  · (intro w hSw; (try dsimp only at hSw); go_simp; try with_reducible rfl)
                  try simp only [Act.put, List.getElem_toArray, List.getElem_cons_zero, List.getElem_cons_succ, List.setIfInBounds_toArray, List.set_cons_zero, List.set_cons_succ]
                  refine wpAnyH_take (i := 3) (v := ?_) rfl (by kernel_rfl) (by kernel_rfl) (by kernel_rfl) (fun _ _ _ h => h) (Or.inl ⟨by rfl, ?_⟩) (by assumption) ?_
                  rotate_left
                  · (intro w hSw; (try dsimp only at hSw); go_simp; try with_reducible rfl)
                  try simp only [Act.put, List.getElem_toArray, List.getElem_cons_zero, List.getElem_cons_succ, List.setIfInBounds_toArray, List.set_cons_zero, List.set_cons_succ]
                  refine wpAnyH_take (i := 4) (v := ?_) rfl (by kernel_rfl) (by kernel_rfl) (by kernel_rfl) (fun _ _ _ h => h) (Or.inl ⟨by rfl, ?_⟩) (by assumption) ?_
                  rotate_left
                  · (intro w hSw; (try dsimp only at hSw); go_simp; try with_reducible rfl)
                  try simp only [Act.put, List.getElem_toArray, List.getElem_cons_zero, List.getElem_cons_succ, List.setIfInBounds_toArray, List.set_cons_zero, List.set_cons_succ]
                  refine wpAnyH_take (i := 5) (v := ?_) rfl (by kernel_rfl) (by kernel_rfl) (by kernel_rfl) (fun _ _ _ h => h) (Or.inl ⟨by rfl, ?_⟩) (by assumption) ?_
                  rotate_left
                  · (intro w hSw; (try dsimp only at hSw); go_simp; try with_reducible rfl)
                  try simp only [Act.put, List.getElem_toArray, List.getElem_cons_zero, List.getElem_cons_succ, List.setIfInBounds_toArray, List.set_cons_zero, List.set_cons_succ]
                  refine wpAnyH_take (i := 6) (v := ?_) rfl (by kernel_rfl) (by kernel_rfl) (by kernel_rfl) (fun _ _ _ h => h) (Or.inl ⟨by rfl, ?_⟩) (by assumption) ?_
                  rotate_left
                  · (intro w hSw; (try dsimp only at hSw); go_simp; try with_reducible rfl)
                  try simp only [Act.put, List.getElem_toArray, List.getElem_cons_zero, List.getElem_cons_succ, List.setIfInBounds_toArray, List.set_cons_zero, List.set_cons_succ]
                  refine wpAnyH_take (i := 8) (v := ?_) rfl (by kernel_rfl) (by kernel_rfl) (by kernel_rfl) (fun _ _ _ h => h) (Or.inl ⟨by rfl, ?_⟩) (by assumption) ?_
                  rotate_left
                  · (intro w hSw; (try dsimp only at hSw); go_simp; try with_reducible rfl)
                  try simp only [Act.put, List.getElem_toArray, List.getElem_cons_zero, List.getElem_cons_succ, List.setIfInBounds_toArray, List.set_cons_zero, List.set_cons_succ]
                  refine wpAnyH_take (i := 9) (v := ?_) rfl (by kernel_rfl) (by kernel_rfl) (by kernel_rfl) (fun _ _ _ h => h) (Or.inl ⟨by rfl, ?_⟩) (by assumption) ?_
                  rotate_left
                  · (intro w hSw; (try dsimp only at hSw); go_simp; try with_reducible rfl)
                  try simp only [Act.put, List.getElem_toArray, List.getElem_cons_zero, List.getElem_cons_succ, List.setIfInBounds_toArray, List.set_cons_zero, List.set_cons_succ]
                  refine wpAnyH_ready (rs := [7]) (by kernel_rfl) (by simp) ?_
                  refine AllReadyH.cons rfl (fun K hK => ?_) AllReadyH.nil
                  go_simp
                  (go_at_call 18; refine HL8.out.mono ?_; rintro e w9 ⟨rfl, rfl⟩)
                  refine hK.out _ _ ?_ (fun hHeld => ?_)
                  · first | assumption | go_keep
                  clear hK K
                  try simp only [Act.put, List.getElem_toArray, List.getElem_cons_zero, List.getElem_cons_succ, List.setIfInBounds_toArray, List.set_cons_zero, List.set_cons_succ]
                  refine wpAnyH_take (i := 10) (v := ?_) rfl (by kernel_rfl) (by kernel_rfl) (by kernel_rfl) (fun _ _ _ h => h) (Or.inl ⟨by rfl, ?_⟩) (by assumption) ?_
                  rotate_left
                  · (intro w hSw; (try dsimp only at hSw); go_simp; try with_reducible rfl)
                  try simp only [Act.put, List.getElem_toArray, List.getElem_cons_zero, List.getElem_cons_succ, List.setIfInBounds_toArray, List.set_cons_zero, List.set_cons_succ]
                  refine wpAnyH_take (i := 11) (v := ?_) rfl (by kernel_rfl) (by kernel_rfl) (by kernel_rfl) (fun _ _ _ h => h) (Or.inl ⟨by rfl, ?_⟩) (by assumption) ?_
                  rotate_left
                  · (intro w hSw; (try dsimp only at hSw); go_simp; try with_reducible rfl)
                  try simp only [Act.put, List.getElem_toArray, List.getElem_cons_zero, List.getElem_cons_succ, List.setIfInBounds_toArray, List.set_cons_zero, List.set_cons_succ]
                  refine wpAnyH_take (i := 12) (v := ?_) rfl (by kernel_rfl) (by kernel_rfl) (by kernel_rfl) (fun _ _ _ h => h) (Or.inl ⟨by rfl, ?_⟩) (by assumption) ?_
                  rotate_left
                  · (intro w hSw; (try dsimp only at hSw); go_simp; try with_reducible rfl)
                  try simp only [Act.put, List.getElem_toArray, List.getElem_cons_zero, List.getElem_cons_succ, List.setIfInBounds_toArray, List.set_cons_zero, List.set_cons_succ]
                  refine wpAnyH_take (i := 13) (v := ?_) rfl (by kernel_rfl) (by kernel_rfl) (by kernel_rfl) (fun _ _ _ h => h) (Or.inl ⟨by rfl, ?_⟩) (by assumption) ?_
                  rotate_left
                  · (intro w hSw; (try dsimp only at hSw); go_simp; try with_reducible rfl)
                  try simp only [Act.put, List.getElem_toArray, List.getElem_cons_zero, List.getElem_cons_succ, List.setIfInBounds_toArray, List.set_cons_zero, List.set_cons_succ]
                  refine wpAnyH_take (i := 14) (v := ?_) rfl (by kernel_rfl) (by kernel_rfl) (by kernel_rfl) (fun _ _ _ h => h) (Or.inl ⟨by rfl, ?_⟩) (by assumption) ?_
                  rotate_left
                  · (intro w hSw; (try dsimp only at hSw); go_simp; try with_reducible rfl)
                  try simp only [Act.put, List.getElem_toArray, List.getElem_cons_zero, List.getElem_cons_succ, List.setIfInBounds_toArray, List.set_cons_zero, List.set_cons_succ]
                  refine wpAnyH_take (i := 16) (v := ?_) rfl (by kernel_rfl) (by kernel_rfl) (by kernel_rfl) (fun _ _ _ h => h) (Or.inl ⟨by rfl, ?_⟩) (by assumption) ?_
                  rotate_left
                  · (intro w hSw; (try dsimp only at hSw); go_simp; try with_reducible rfl)
                  try simp only [Act.put, List.getElem_toArray, List.getElem_cons_zero, List.getElem_cons_succ, List.setIfInBounds_toArray, List.set_cons_zero, List.set_cons_succ]
                  refine wpAnyH_take (i := 17) (v := ?_) rfl (by kernel_rfl) (by kernel_rfl) (by kernel_rfl) (fun _ _ _ h => h) (Or.inl ⟨by rfl, ?_⟩) (by assumption) ?_
                  rotate_left
                  · (intro w hSw; (try dsimp only at hSw); go_simp; try with_reducible rfl)
                  try simp only [Act.put, List.getElem_toArray, List.getElem_cons_zero, List.getElem_cons_succ, List.setIfInBounds_toArray, List.set_cons_zero, List.set_cons_succ]
                  refine wpAnyH_take (i := 18) (v := ?_) rfl (by kernel_rfl) (by kernel_rfl) (by kernel_rfl) (fun _ _ _ h => h) (Or.inl ⟨by rfl, ?_⟩) (by assumption) ?_
                  rotate_left
                  · (intro w hSw; (try dsimp only at hSw); go_simp; try with_reducible rfl)
                  try simp only [Act.put, List.getElem_toArray, List.getElem_cons_zero, List.getElem_cons_succ, List.setIfInBounds_toArray, List.set_cons_zero, List.set_cons_succ]
                  refine wpAnyH_take (i := 19) (v := ?_) rfl (by kernel_rfl) (by kernel_rfl) (by kernel_rfl) (fun _ _ _ h => h) (Or.inl ⟨by rfl, ?_⟩) (by assumption) ?_
                  rotate_left
                  · (intro w hSw; (try dsimp only at hSw); go_simp; try with_reducible rfl)
                  try simp only [Act.put, List.getElem_toArray, List.getElem_cons_zero, List.getElem_cons_succ, List.setIfInBounds_toArray, List.set_cons_zero, List.set_cons_succ]
                  refine wpAnyH_take (i := 20) (v := ?_) rfl (by kernel_rfl) (by kernel_rfl) (by kernel_rfl) (fun _ _ _ h => h) (Or.inl ⟨by rfl, ?_⟩) (by assumption) ?_
                  rotate_left
                  · (intro w hSw; (try dsimp only at hSw); go_simp; try with_reducible rfl)
                  try simp only [Act.put, List.getElem_toArray, List.getElem_cons_zero, List.getElem_cons_succ, List.setIfInBounds_toArray, List.set_cons_zero, List.set_cons_succ]
                  refine wpAnyH_take (i := 21) (v := ?_) rfl (by kernel_rfl) (by kernel_rfl) (by kernel_rfl) (fun _ _ _ h => h) (Or.inl ⟨by rfl, ?_⟩) (by assumption) ?_
                  rotate_left
                  · (intro w hSw; (try dsimp only at hSw); go_simp; try with_reducible rfl)
                  try simp only [Act.put, List.getElem_toArray, List.getElem_cons_zero, List.getElem_cons_succ, List.setIfInBounds_toArray, List.set_cons_zero, List.set_cons_succ]
                  refine wpAnyH_ready (rs := [15]) (by kernel_rfl) (by simp) ?_
                  refine AllReadyH.cons rfl (fun K hK => ?_) AllReadyH.nil
                  go_simp
                  (go_at_call 29; refine HH8.out.mono ?_; rintro e w9 ⟨rfl, hS10, hK10⟩; have hc10 := cell_b hS10.below HC0.out; have S10 := Lib.hid hS10; have K10 := Lib.hid ((Keep.below (below_dr (Below.refl _ w8))).trans hK10); clear hS10 hK10)
                  refine hK.out _ _ ?_ (fun hHeld => ?_)
                  · exact hc10
                  clear hK K
                  try simp only [Act.put, List.getElem_toArray, List.getElem_cons_zero, List.getElem_cons_succ, List.setIfInBounds_toArray, List.set_cons_zero, List.set_cons_succ]
                  refine wpAnyH_take (i := 22) (v := ?_) rfl (by kernel_rfl) (by kernel_rfl) (by kernel_rfl) (fun _ _ _ h => h) (Or.inl ⟨by rfl, ?_⟩) (by assumption) ?_
                  rotate_left
                  · (intro w hSw; (try dsimp only at hSw); go_simp; try with_reducible rfl)
                  try simp only [Act.put, List.getElem_toArray, List.getElem_cons_zero, List.getElem_cons_succ, List.setIfInBounds_toArray, List.set_cons_zero, List.set_cons_succ]
                  refine wpAnyH_take (i := 23) (v := undef) rfl (by kernel_rfl) (by kernel_rfl) (by kernel_rfl) (fun _ _ _ h => h) (Or.inr ⟨by rfl, rfl⟩) (by assumption) ?_
                  try simp only [Act.put, List.getElem_toArray, List.getElem_cons_zero, List.getElem_cons_succ, List.setIfInBounds_toArray, List.set_cons_zero, List.set_cons_succ]
                  refine wpAnyH_take (i := 24) (v := undef) rfl (by kernel_rfl) (by kernel_rfl) (by kernel_rfl) (fun _ _ _ h => h) (Or.inr ⟨by rfl, rfl⟩) (by assumption) ?_
                  try simp only [Act.put, List.getElem_toArray, List.getElem_cons_zero, List.getElem_cons_succ, List.setIfInBounds_toArray, List.set_cons_zero, List.set_cons_succ]
                  refine wpAnyH_take (i := 25) (v := undef) rfl (by kernel_rfl) (by kernel_rfl) (by kernel_rfl) (fun _ _ _ h => h) (Or.inr ⟨by rfl, rfl⟩) (by assumption) ?_
                  try simp only [Act.put, List.getElem_toArray, List.getElem_cons_zero, List.getElem_cons_succ, List.setIfInBounds_toArray, List.set_cons_zero, List.set_cons_succ]
                  refine wpAnyH_take (i := 26) (v := ?_) rfl (by kernel_rfl) (by kernel_rfl) (by kernel_rfl) (fun _ _ _ h => h) (Or.inl ⟨by rfl, ?_⟩) (by assumption) ?_
                  rotate_left
                  · (intro w hSw; (try dsimp only at hSw); go_simp; try with_reducible rfl)
                  try simp only [Act.put, List.getElem_toArray, List.getElem_cons_zero, List.getElem_cons_succ, List.setIfInBounds_toArray, List.set_cons_zero, List.set_cons_succ]
                  refine wpAnyH_take (i := 27) (v := ?_) rfl (by kernel_rfl) (by kernel_rfl) (by kernel_rfl) (fun _ _ _ h => h) (Or.inl ⟨by rfl, ?_⟩) (by assumption) ?_
                  rotate_left
                  · (intro w hSw; (try dsimp only at hSw); go_simp; try with_reducible rfl)
                  try simp only [Act.put, List.getElem_toArray, List.getElem_cons_zero, List.getElem_cons_succ, List.setIfInBounds_toArray, List.set_cons_zero, List.set_cons_succ]
                  refine wpAnyH_take (i := 28) (v := ?_) rfl (by kernel_rfl) (by kernel_rfl) (by kernel_rfl) (fun _ _ _ h => h) (Or.inl ⟨by rfl, ?_⟩) (by assumption) ?_
                  rotate_left
                  · (intro w hSw; (try dsimp only at hSw); go_simp; try with_reducible rfl)
                  try simp only [Act.put, List.getElem_toArray, List.getElem_cons_zero, List.getElem_cons_succ, List.setIfInBounds_toArray, List.set_cons_zero, List.set_cons_succ]
                  refine wpAnyH_done (by kernel_rfl) ?_ _
                  all_goals
                    clear hc8
                    go_wp2
                    go_meet
                    case rel => exact ⟨rfl, S10, K10⟩
              case rest =>
                obtain ⟨rfl, S10, K10⟩ := hcut
                have R10 := Lib.hid (R9.out.keep K10.out)
                have M10 := Lib.hid (R3.out.keep K10.out)
                clear R9 R3 K10 S9 HU2
                go_wp2
                obtain ⟨wq, rfl⟩ : ∃ wq : World, wq = wc := ⟨_, rfl⟩
                go_loopw [14] (fun jj wx => ∃ j : Nat, j ≤ La.length ∧ jj = .int .i64 j ∧ Hid (Held w.heap.size w wx tb (80 * (k + 1)) La) ∧ Hid (RowsAt wx (.slice A9 La.length c9) La) ∧ Hid (MRow w wx (.slice Am2 La.length cm2) La)) (fun jj _ => La.length - (intOf jj).toNat)
                case atStart => exact ⟨0, Nat.zero_le _, rfl, S10, R10, M10⟩
                case round =>
                  clear S10 R10 M10
                  obtain ⟨j, hj, rfl, S11, R11, M11⟩ := hrel
                  by_cases hjl : j < La.length
                  · obtain ⟨g, Ax, cx, rfl, hcx, hrx⟩ := R11.out.cell hjl
                    obtain ⟨g', Ay, cy, rfl, hcy, hly, hWy⟩ := M11.out.cell hjl
                    have hxl := hWy.len
                    generalize La.getD j [] = x at hcx hrx hcy hly hWy hxl
                    obtain ⟨Ax', cx', ex, hCx, hlcx⟩ := hrx.le
                    simp only [Value.slice.injEq, true_and] at ex
                    obtain ⟨rfl, rfl⟩ := ex
                    obtain ⟨kk, hf⟩ := (same_ev x x hxl hxl).get
                    rw [decide_eq_true rfl] at hf
                    have hCy := Kd.C_below hWy.row S11.out.below
                    have HSAME : Hid (∀ n, Calls Try.prog 32 #[.slice Ax x.length cx, .slice Ay x.length cy] (wr.drewN n) fun e w' => e = .returned (.bool true) ∧ ∃ m, w' = (wr.drewN n).drewN m) := Lib.hid (fun n =>
                      (hornbooklaw16_same.calls kk Ax cx x Ay cy x true _ (Kd.C_drewN hCx n) hlcx (Kd.C_drewN hCy n) hly hf).mono fun e w' ⟨h1, h2⟩ => ⟨h1, h2.out⟩)
                    have b3 : (j : Int) < La.length := by omega
                    have b4 : (0 : Int) ≤ (j : Int) := by omega
                    clear hf hrx hCx hCy hWy hxl hlcx hly
                    go_wp2
                    go_quiet ((go_at_call 32; exact Calls.quiet_of (HSAME.out _)))
                    have S12 := Lib.hid (S11.out.step (below_d (Below.refl _ _) nq))
                    have R12 := Lib.hid (R11.out.below (below_d (Below.refl _ _) nq))
                    have M12 := Lib.hid (M11.out.keep (.below (below_d (Below.refl _ _) nq)))
                    clear S11 R11 M11 HSAME
                    go_wp2
                    go_roundw
                    case rel => exact ⟨j + 1, by omega, by go_num, S12, R12, M12⟩
                    case measure => simp [intOf]; omega
                  · obtain rfl : j = La.length := by omega
                    clear R11
                    go_wp2
                    go_roundw
                    case rel => exact ⟨k + 1, La, by omega, by go_num, S11, M11, HSO2, H302, hl2⟩
                    case measure => simp [intOf]; omega
    · obtain rfl : k = l.length := by omega
      have HB := Lib.hid S.out.below
      have HF2 := fun (W : World) (hS : Held w.heap.size w W tb (80 * l.length) M) (hM : MRow w W (.slice Am M.length cm) M) => found_calls (c := c1) hS hM H30.out (by omega) HW.out hc1 hn1 (Nat.le_refl _)
      have HF := Lib.hid HF2
      clear HF2
      by_cases ht : tz < 0 ∨ (text.length : Int) < tz
      · have HN := Lib.hid (found_none (W := wr) (tb := tb) (m := M.length) (c := c1) (cm := cm) (A := A1) (Am := Am) ht)
        clear ht
        go_wp2_with fail
        refine HN.out.mono ?_
        rintro e w8 ⟨rfl, rfl⟩
        have HF3 := Lib.hid (HF.out _ S.out R.out)
        clear HF HN
        go_wp2_with fail
        refine HF3.out.mono ?_
        rintro e w9 ⟨rfl, hS9, _⟩
        have HB9 := Lib.hid hS9.below
        clear hS9 HF3
        go_wp2
        go_ret
        exact ⟨rfl, HB9.out⟩
      · obtain ⟨n, rfl⟩ : ∃ n : Nat, tz = (n : Int) := ⟨tz.toNat, by omega⟩
        have HF1 := Lib.hid (found_calls (c := c1) (tz := n) S.out R.out H30.out (by omega) HW.out hc1 hn1 (by omega))
        clear ht
        go_wp2_with fail
        refine HF1.out.mono ?_
        rintro e w8 ⟨rfl, hS8, hK8⟩
        have HF3 := Lib.hid (HF.out _ hS8 (R.out.keep hK8))
        clear HF HF1 hS8 hK8
        go_wp2_with fail
        refine HF3.out.mono ?_
        rintro e w9 ⟨rfl, hS9, _⟩
        have HB9 := Lib.hid hS9.below
        clear hS9 HF3
        go_wp2
        go_ret
        exact ⟨rfl, HB9.out⟩
set_option maxRecDepth 100000 in
theorem plays_many (A A1 : Option Addr) (c c1 n n1 : Nat) (tz : Int) (w : World) (h : 50 < n ∨ 40 < n1) :
    Calls Try.prog 10 #[.slice A n c, .slice A1 n1 c1, .int .i64 tz] w fun e w' => e = .returned (.bool true) ∧ Below w.heap.size w w' := by
  have HK := Lib.hid (trie_known w)
  by_cases h1 : 50 < n
  · have d1 : decide ((50 : Int) < (n : Int)) = true := decide_eq_true (by omega)
    have d2 : decide (50 < n) = true := decide_eq_true h1
    clear h h1
    go_enter Try.func10, Try.ntmps10
    go_wp2_with (refine HK.out.mono ?_; rintro e w1 ⟨rfl, hb⟩; have HB := Lib.hid hb; clear hb)
    go_ret
    exact ⟨rfl, HB.out⟩
  · have d1 : decide ((50 : Int) < (n : Int)) = false := decide_eq_false (by omega)
    have d2 : decide (50 < n) = false := decide_eq_false h1
    have d3 : decide ((40 : Int) < (n1 : Int)) = true := decide_eq_true (by omega)
    have d4 : decide (40 < n1) = true := decide_eq_true (by omega)
    clear h h1
    go_enter Try.func10, Try.ntmps10
    go_wp2_with (refine HK.out.mono ?_; rintro e w1 ⟨rfl, hb⟩; have HB := Lib.hid hb; clear hb)
    go_ret
    exact ⟨rfl, HB.out⟩
def wfStp (s : Stp) : Prop := (Lit.int .i64 s.f0).wf = true ∧ ∀ z ∈ s.f1, (Lit.int .i32 z).wf = true
theorem plays_law (A : Option Addr) (c : Nat) (l : List Stp) (A1 : Option Addr) (c1 : Nat) (text : List Int) (tz : Int) (w : World) (hr : Kd.C k59 w A l.length l) (_hc : l.length ≤ c) (hz : ∀ s ∈ l, wfStp s) (hr1 : Kd.C (Kd.int .i32) w A1 text.length text) (hc1 : text.length ≤ c1) (hz1 : ∀ z ∈ text, (Lit.int .i32 z).wf = true) (_ht : (Lit.int .i64 tz).wf = true) :
    Calls Try.prog 10 #[.slice A l.length c, .slice A1 text.length c1, .int .i64 tz] w fun e w' => e = .returned (.bool true) ∧ Below w.heap.size w w' := by
  by_cases h : 50 < l.length ∨ 40 < text.length
  · exact plays_many A A1 c c1 l.length text.length tz w h
  · exact plays_calls A A1 c c1 l text tz w hr hr1 hc1 (fun s hs => (hz s hs).2) hz1 (by omega) (by omega)
end Go.Proofs.Yteaadpgammbdgaa.PA
