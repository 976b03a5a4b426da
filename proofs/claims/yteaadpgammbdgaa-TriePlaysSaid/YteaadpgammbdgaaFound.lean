/- hornbooklaw16.found: the lengths of words that end at a place are those that Ends tells. -/
import Derived.Test.YteaadpgammbdgaaPlaysMath
import Derived.Test.YteaadpgammbdgaaAppendC
import Derived.Deep.QuietTactic
import Derived.BigQuiet
import Derived.IntWalk
namespace Go.Proofs.Yteaadpgammbdgaa.PA
open Go.RowKit Go.Shelf Go.Proofs.YteaadpgammbdgaaW.PrintWords Go.Proofs.YteaadpgammbdgaaW.PrintLast Go.Proofs.YteaadpgammbdgaaW.PrintMore
set_option linter.unusedVariables false
set_option linter.unusedSimpArgs false

theorem row_same {w w' : World} {base : Nat} {e : TypeId} {size n : Nat} {v : Value} {xs : List Value} (h : w.ownsRow base e size v n xs) (hk : ∀ g cs, v.ownBlock = some g → w.heap[g]? = some (.cells cs e (0, 0)) → w'.heap[g]? = some (.cells cs e (0, 0))) : w'.ownsRow base e size v n xs :=
  ⟨h.1, h.2.imp id fun ⟨g, cap, cur, q1, q2, q3, q4⟩ => ⟨g, cap, cur, q1, q2, hk g cur (by rw [q1]; rfl) q3, q4⟩⟩
/-- A row of words of the call's own (in wr), its words those that came in (read in w). -/
def MRow (w wr : World) (v : Value) (M : List (List Int)) : Prop :=
  ∃ vs, wr.ownsRow w.heap.size 22 1 v M.length vs ∧ ∀ (j : Nat) (u : Value) (zs : List Int), vs[j]? = some u → M[j]? = some zs → ∃ A c, u = .slice A zs.length c ∧ zs.length ≤ c ∧ WordAt w.heap.size w A zs
theorem MRow.keep {w wr wr' : World} {v : Value} {M : List (List Int)} (h : MRow w wr v M) (k : Keep wr wr') : MRow w wr' v M := by
  obtain ⟨vs, h1, h2⟩ := h
  exact ⟨vs, row_same h1 fun g cs _ hc => k g _ hc rfl, h2⟩
theorem MRow.nil (w wr : World) : MRow w wr (.slice none 0 0) [] := ⟨[], World.ownsRow_nil wr _ _ _, fun j u zs hu => by cases hu⟩
theorem MRow.form {w wr : World} {v : Value} {M : List (List Int)} (h : MRow w wr v M) : ∃ A c, v = .slice A M.length c ∧ M.length ≤ c := by
  obtain ⟨vs, h1, _⟩ := h
  rcases h1.2 with ⟨rfl, h0⟩ | ⟨g, cap, cur, rfl, _, _, hc, _⟩
  · exact ⟨none, 0, by rw [h0], by omega⟩
  · exact ⟨_, cap, rfl, hc⟩
theorem MRow.cell {w wr : World} {A : Option Addr} {c : Nat} {M : List (List Int)} (h : MRow w wr (.slice A M.length c) M) {k : Nat} (hk : k < M.length) :
    ∃ g A' c', A = some ⟨g, 0, none⟩ ∧ wr.cell? ⟨g, k, none⟩ = some (.slice A' (M.getD k []).length c') ∧ (M.getD k []).length ≤ c' ∧ WordAt w.heap.size w A' (M.getD k []) := by
  obtain ⟨vs, ho, hw⟩ := h
  rcases ho.2 with ⟨e, h0⟩ | ⟨g, cap, cur, e, _, hh, hlc, hcm, hcs, htk⟩
  · omega
  · simp only [Value.slice.injEq] at e
    obtain ⟨rfl, _, rfl⟩ := e
    have hvl : k < vs.length := by have := ho.1; omega
    obtain ⟨A', c', e', hle, hW⟩ := hw k _ _ (List.getElem?_eq_getElem hvl) (List.getElem?_eq_getElem hk)
    rw [getD_eq hk]
    refine ⟨g, A', c', rfl, ?_, hle, hW⟩
    unfold World.cell?
    simp only [hh]
    have : cur[k]? = vs[k]? := by rw [← htk, List.getElem?_take, if_pos (by omega), Array.getElem?_toList]
    rw [this, List.getElem?_eq_getElem hvl, e']
    rfl
set_option maxRecDepth 100000 in
set_option maxHeartbeats 4000000 in
theorem found_calls {w W : World} {tb nb c cm : Nat} {M : List (List Int)} {A Am : Option Addr} {text : List Int} {tz : Nat} (h : Held w.heap.size w W tb nb M) (hm : MRow w W (.slice Am M.length cm) M) (h30 : ∀ u ∈ M, u.length ≤ 30) (hM : M.length ≤ 1000)
    (hW : WordAt w.heap.size w A text) (hc : text.length ≤ c) (hl : text.length ≤ 40) (htz : tz ≤ text.length) :
    Calls Try.prog 34 #[.pointer (some ⟨tb, 0, none⟩), .slice Am M.length cm, .slice A text.length c, .int .i64 (tz : Int)] W fun e W' => e = .returned (.bool true) ∧ Held w.heap.size w W' tb nb M ∧ Keep W W' := by
  have HE := Lib.hid (h.ends (c := c) (tz := tz) (hW.below h.below) htz (by omega))
  have HM := Lib.hid hm
  have H30 := Lib.hid h30
  have HW := Lib.hid hW
  have hel := endsM_length M text tz tz
  clear h hm h30 hW
  go_enter Try.func34, Try.ntmps34
  go_wp2_with fail
  refine HE.out.mono ?_
  rintro e w2 ⟨A2, c2, rfl, hC, hS, hK⟩
  have HC := Lib.hid hC
  have M2 := Lib.hid (HM.out.keep hK)
  have S2 := Lib.hid hS
  have K2 := Lib.hid hK
  clear hC hS hK HE HM
  go_wp2
  go_loopw [10, 11] (fun nn kk wr => ∃ (k : Nat), 1 ≤ k ∧ k ≤ 31 ∧ k ≤ tz + 1 ∧ kk = .int .i64 k ∧ nn = .int .i64 ((endsM M text tz (k - 1)).length : Int) ∧ Hid (Below w2.heap.size w2 wr)) (fun _ kk _ => 32 - (intOf kk).toNat)
  case atStart => exact ⟨1, by omega, by omega, by omega, rfl, rfl, Lib.hid (Below.refl _ _)⟩
  case round =>
    obtain ⟨k, hk1, hk2, hk3, rfl, rfl, HB⟩ := hrel
    have hnl := endsM_length M text tz (k - 1)
    by_cases hgo : k ≤ 30 ∧ k ≤ tz
    · obtain ⟨hg1, hg2⟩ := hgo
      have f1 : decide ((k : Int) ≤ 30) = true := decide_eq_true (by omega)
      have f2 : decide (k ≤ 30) = true := decide_eq_true hg1
      have f3 : decide ((k : Int) ≤ (tz : Int)) = true := decide_eq_true (by omega)
      have f4 : decide (k ≤ tz) = true := decide_eq_true hg2
      have f5 : decide ((tz : Int) ≤ (text.length : Int)) = true := decide_eq_true (by omega)
      have f6 : decide (tz ≤ text.length) = true := decide_eq_true htz
      go_wp2
      clear f1 f2 f3 f4 f5 f6
      obtain ⟨wo, rfl⟩ : ∃ wo : World, wo = wr := ⟨_, rfl⟩
      go_loopw [12, 13] (fun is ii wr => ∃ (i : Nat), i ≤ M.length ∧ ii = .int .i64 i ∧ is = .bool (decide ((text.take tz).drop (tz - k) ∈ M.take i)) ∧ Hid (Below w2.heap.size w2 wr)) (fun _ ii _ => M.length - (intOf ii).toNat)
      case atStart => exact ⟨0, Nat.zero_le _, rfl, by simp, HB⟩
      case round =>
        clear HB
        obtain ⟨i, hi, rfl, rfl, HB⟩ := hrel
        by_cases hlt : i < M.length
        · have hta := take_any hlt ((text.take tz).drop (tz - k))
          obtain ⟨g, A', c', rfl, hcell, hlc, hWi⟩ := M2.out.cell hlt
          have hcr := cell_b HB.out hcell
          have hul : (M.getD i []).length ≤ 30 := H30.out _ (by rw [getD_eq hlt]; exact List.getElem_mem _)
          generalize M.getD i [] = u at hta hcell hlc hWi hcr hul
          have hi1 : (i : Int) < M.length := by omega
          cases his : decide ((text.take tz).drop (tz - k) ∈ M.take i) with
          | true =>
            rw [his, Bool.true_or] at hta
            have HTA := Lib.hid hta
            clear hta his hWi hcell
            go_wp2
            go_quiet (fail)
            have HB2 := Lib.hid (below_d HB.out nq)
            clear HB
            go_wp2
            go_roundw
            case rel => exact ⟨i + 1, by omega, by go_num, by rw [HTA.out], HB2⟩
            case measure => simp [intOf]; omega
          | false =>
            rw [his, Bool.false_or] at hta
            have HTA := Lib.hid hta
            obtain ⟨b, off, rfl, hb⟩ := C_plain HW.out.row (by omega) (by decide)
            have hC1 := Kd.C_below HW.out.row (S2.out.below)
            have hmid := Kd.C_mid (lo := tz - k) (hi := tz) hC1 (by omega) htz hc
            rw [if_neg (by omega), ahead_len htz hg2] at hmid
            have hsl := ahead_len htz hg2
            generalize (text.take tz).drop (tz - k) = sfx at hta HTA his hmid hsl ⊢
            obtain ⟨kk, hf⟩ := (same_ev u sfx (by omega) (by omega)).get
            have hCu := Kd.C_below hWi.row (S2.out.below)
            have HSAME : Hid (∀ n, Calls Try.prog 32 #[.slice A' u.length c', .slice (some ⟨b, off + (tz - k), none⟩) k (c - (tz - k))] (wr.drewN n) fun e w' => e = .returned (.bool (decide (u = sfx))) ∧ ∃ m, w' = (wr.drewN n).drewN m) := Lib.hid (fun n => by
              have h2 : Kd.C (Kd.int .i32) wr (some ⟨b, off + (tz - k), none⟩) sfx.length sfx := by
                have := Kd.C_below hmid HB.out
                rw [hsl]
                simp only [Option.map_some, add_none] at this
                rw [show (tz - k) * (Kd.int .i32).sz = tz - k by show (tz - k) * 1 = _; omega] at this
                exact this
              have := hornbooklaw16_same.calls kk A' c' u (some ⟨b, off + (tz - k), none⟩) (c - (tz - k)) sfx (decide (u = sfx)) (wr.drewN n) (Kd.C_drewN (Kd.C_below hCu HB.out) n) hlc (Kd.C_drewN h2 n) (by omega) hf
              rw [hsl] at this
              exact this.mono fun e w' ⟨h1, h2⟩ => ⟨h1, h2.out⟩)
            have g1 : IntKind.i64.wrap ((tz : Int) - (k : Int)) = (tz : Int) - (k : Int) := IntWalk.i64_in _ (by omega)
            have g2 : ((tz : Int) - (k : Int)).toNat = tz - k := by omega
            have g3 : (0 : Int) ≤ (tz : Int) - (k : Int) := by omega
            have g4 : (tz : Int) - (k : Int) ≤ (tz : Int) := by omega
            have g5 : (k : Int) ≤ (tz : Int) := by omega
            have g6 : tz ≤ c := by omega
            have g7 : ¬ (c = tz - k) := by omega
            have g8 : tz - (tz - k) = k := by omega
            have g9 : (0 : Int) ≤ (k : Int) := by omega
            have HHIS := Lib.hid his
            generalize decide (u = sfx) = bb at HTA HSAME hta hf
            clear his hta hf hCu hmid hC1 hWi hcell hsl
            go_wp2
            go_quiet ((go_at_call 32; exact Calls.quiet_of (HSAME.out _)))
            have HB2 := Lib.hid (below_d HB.out nq)
            clear HB g1 g2 g7 g8
            go_wp2
            go_roundw
            case rel => exact ⟨i + 1, by omega, by go_num, by rw [HTA.out], HB2⟩
            case measure => simp [intOf]; omega
        · obtain rfl : i = M.length := by omega
          rw [List.take_length]
          have hes := endsM_step M htz hk1 hg2
          cases his : decide ((text.take tz).drop (tz - k) ∈ M) with
          | true =>
            have hm := of_decide_eq_true his
            rw [if_pos hm] at hes
            obtain ⟨h1, h2⟩ := endsM_at htz hk1 hg2 hm
            obtain ⟨ad, rfl, hc8⟩ := Kd.at_int HC.out ((endsM M text tz (k - 1)).length : Int) (by omega) (by omega)
            rw [h2, Int.toNat_natCast] at hc8
            have hc9 := cell_b HB.out hc8
            have HES := Lib.hid (show (endsM M text tz k).length = (endsM M text tz (k - 1)).length + 1 by rw [hes]; simp)
            have hnk : (endsM M text tz (k - 1)).length ≤ 40 := by omega
            generalize (endsM M text tz (k - 1)).length = n1 at h1 hc8 hc9 HES hnk ⊢
            have b1 : (n1 : Int) < ((endsM M text tz tz).length : Int) := by omega
            have b2 : decide (((endsM M text tz tz).length : Int) ≤ (n1 : Int)) = false := decide_eq_false (by omega)
            have b3 : decide ((endsM M text tz tz).length ≤ n1) = false := decide_eq_false (by omega)
            have b4 : (0 : Int) ≤ (n1 : Int) := by omega
            clear hes h2 hm his hc8 hnl
            go_wp2
            go_roundw
            case rel => exact ⟨k + 1, by omega, by omega, by omega, by go_num, by rw [Nat.add_sub_cancel, HES.out]; go_num, HB⟩
            case measure => simp [intOf]; omega
          | false =>
            rw [if_neg (of_decide_eq_false his), List.append_nil] at hes
            have HES := Lib.hid hes
            clear hes his
            go_wp2
            go_roundw
            case rel => exact ⟨k + 1, by omega, by omega, by omega, by go_num, by rw [Nat.add_sub_cancel, HES.out], HB⟩
            case measure => simp [intOf]; omega
    · have hend : (endsM M text tz (k - 1)).length = (endsM M text tz tz).length := by
        by_cases e : k = tz + 1
        · rw [e, Nat.add_sub_cancel]
        · obtain rfl : k = 31 := by omega
          have := endsM_stop H30.out htz (tz - 30) (by omega)
          rw [show 30 + (tz - 30) = tz by omega] at this
          rw [this]
      rw [hend]
      have HS := Lib.hid (S2.out.step HB.out)
      have HK := Lib.hid (K2.out.trans (.below HB.out))
      generalize (endsM M text tz tz).length = n2 at hel HC ⊢
      clear hend hnl HB S2 K2 HC M2
      by_cases hg1 : k ≤ 30
      · have f1 : decide ((k : Int) ≤ 30) = true := decide_eq_true (by omega)
        have f2 : decide (k ≤ 30) = true := decide_eq_true hg1
        have f3 : decide ((k : Int) ≤ (tz : Int)) = false := decide_eq_false (by omega)
        have f4 : decide (k ≤ tz) = false := decide_eq_false (by omega)
        clear hgo
        go_wp2
        go_ret
        exact ⟨rfl, HS.out, HK.out⟩
      · have f1 : decide ((k : Int) ≤ 30) = false := decide_eq_false (by omega)
        have f2 : decide (k ≤ 30) = false := decide_eq_false hg1
        clear hgo
        go_wp2
        go_ret
        exact ⟨rfl, HS.out, HK.out⟩
set_option maxRecDepth 100000 in
set_option maxHeartbeats 2000000 in
theorem found_none {W : World} {tb m c cm : Nat} {A Am : Option Addr} {n : Nat} {tz : Int} (h : tz < 0 ∨ (n : Int) < tz) :
    Calls Try.prog 34 #[.pointer (some ⟨tb, 0, none⟩), .slice Am m cm, .slice A n c, .int .i64 tz] W fun e W' => e = .returned (.bool true) ∧ W' = W := by
  have HE := Lib.hid (ends_none (w := W) (tb := tb) (c := c) (A := A) (m := n) (tz := tz) h)
  by_cases h0 : tz < 0
  · have f3 : decide ((1 : Int) ≤ tz) = false := decide_eq_false (by omega)
    clear h h0
    go_enter Try.func34, Try.ntmps34
    go_wp2_with fail
    refine HE.out.mono ?_
    rintro e w2 ⟨rfl, rfl⟩
    go_wp2
    refine wp_loop_rounds 1 ?_
    rw [rounds_succ]
    go_wp2
    go_ret
    exact ⟨rfl, rfl⟩
  · have h2 : (n : Int) < tz := by omega
    have f3 : decide ((1 : Int) ≤ tz) = true := decide_eq_true (by omega)
    have f4 : decide (tz ≤ (n : Int)) = false := decide_eq_false (by omega)
    clear h h0 h2
    go_enter Try.func34, Try.ntmps34
    go_wp2_with fail
    refine HE.out.mono ?_
    rintro e w2 ⟨rfl, rfl⟩
    go_wp2
    refine wp_loop_rounds 1 ?_
    rw [rounds_succ]
    go_wp2
    go_ret
    exact ⟨rfl, rfl⟩
end Go.Proofs.Yteaadpgammbdgaa.PA
