/- TrieOrder: the walk. -/
import Derived.Test.YteaadpgammbdgaaHold
import Derived.Test.YteaadpgammbdgaaAppendC
import Derived.Deep.QuietTactic
import Derived.BigQuiet
import Derived.IntWalk
namespace Go.Proofs.Yteaadpgammbdgaa.PA
open Go.RowKit Go.Shelf Go.Proofs.YteaadpgammbdgaaW.PrintWords Go.Proofs.YteaadpgammbdgaaW.PrintLast Go.Proofs.YteaadpgammbdgaaW.PrintMore
set_option linter.unusedVariables false
set_option linter.unusedSimpArgs false

/-- A row of words that came in. -/
abbrev kWords : Kd (List (List Int)) := Kd.slice 22 (Kd.slice 21 (Kd.int .i32))
theorem row_word {w : World} {A : Option Addr} {L : List (List Int)} (h : Kd.C (Kd.slice 21 (Kd.int .i32)) w A L.length L) {k : Nat} (hk : k < L.length) :
    ∃ b off A' c', A = some ⟨b, off, none⟩ ∧ w.cell? ⟨b, off + k, none⟩ = some (.slice A' (L.getD k []).length c') ∧ Kd.C (Kd.int .i32) w A' (L.getD k []).length (L.getD k []) ∧ (L.getD k []).length ≤ c' := by
  obtain ⟨b, off, rfl, hb⟩ := C_plain h (by omega) (by decide)
  obtain ⟨ad, cs, e, hl, ⟨A', c', rfl, hc, hC⟩, hcell⟩ := ReadsRow.get_ h [] (k : Int) (by omega) (by omega)
  cases e
  have := hcell 0 _ rfl
  rw [Int.toNat_natCast] at this hC hc
  refine ⟨b, off, A', c', rfl, ?_, hC, hc⟩
  rw [add_none] at this
  have e2 : off + (k * (Kd.slice 21 (Kd.int .i32)).sz + 0) = off + k := by show off + (k * 1 + 0) = off + k; omega
  rw [e2] at this
  exact this
theorem RowsAt.cell {w : World} {A : Option Addr} {c : Nat} {L : List (List Int)} (h : RowsAt w (.slice A L.length c) L) {k : Nat} (hk : k < L.length) :
    ∃ g A' c', A = some ⟨g, 0, none⟩ ∧ w.cell? ⟨g, k, none⟩ = some (.slice A' (L.getD k []).length c') ∧ WordRow w (.slice A' (L.getD k []).length c') (L.getD k []) := by
  obtain ⟨vs, ho, hw⟩ := h
  rcases ho.2 with ⟨e, h0⟩ | ⟨g, cap, cur, e, _, hh, hlc, hcm, hcs, htk⟩
  · omega
  · simp only [Value.slice.injEq] at e
    obtain ⟨rfl, _, rfl⟩ := e
    have hvl : k < vs.length := by have := ho.1; omega
    have hrow := hw k _ _ (List.getElem?_eq_getElem hvl) (List.getElem?_eq_getElem hk)
    have hgd : L.getD k [] = L[k] := by simp [List.getD_eq_getElem?_getD, hk]
    rw [hgd]
    obtain ⟨A', c', e', _⟩ := hrow.reads
    refine ⟨g, A', c', rfl, ?_, by rw [← e']; exact hrow⟩
    unfold World.cell?
    simp only [hh]
    have : cur[k]? = vs[k]? := by rw [← htk, List.getElem?_take, if_pos (by omega), Array.getElem?_toList]
    rw [this, List.getElem?_eq_getElem hvl, e']
    rfl
def foldW (L : List (List Int)) (k : Nat) : List (List Int) := (L.take k).foldl addW []
theorem foldW_succ {L : List (List Int)} {k : Nat} (h : k < L.length) : foldW L (k + 1) = addW (foldW L k) (L.getD k []) := by
  unfold foldW
  rw [List.take_succ_eq_append_getElem h, List.foldl_append]
  simp [List.getD_eq_getElem?_getD, h]
theorem addW_mem {M : List (List Int)} {u v : List Int} (h : [] ∉ M) : v ∈ addW M u ↔ v ∈ M ∨ (v = u ∧ v ≠ []) := by
  unfold addW
  split
  · rename_i e
    rcases e with e | e
    · subst e
      exact ⟨.inl, fun q => q.elim id fun ⟨a, b⟩ => absurd a b⟩
    · exact ⟨.inl, fun q => q.elim id fun ⟨a, b⟩ => by rw [a]; exact e⟩
  · rename_i e
    simp only [not_or] at e
    rw [List.mem_cons]
    exact ⟨fun q => q.elim (fun a => .inr ⟨a, by rw [a]; exact e.1⟩) .inl, fun q => q.elim .inr fun ⟨a, _⟩ => .inl a⟩
theorem foldW_mem (L : List (List Int)) : ∀ k, k ≤ L.length → ∀ v, v ∈ foldW L k ↔ v ∈ L.take k ∧ v ≠ []
  | 0, _, v => by simp [foldW]
  | k + 1, h, v => by
    have ih := foldW_mem L k (by omega)
    have h0 : [] ∉ foldW L k := fun e => ((ih []).1 e).2 rfl
    have hk : k < L.length := by omega
    rw [foldW_succ hk, addW_mem h0, ih, List.take_succ_eq_append_getElem hk, List.mem_append, List.mem_singleton]
    have hgd : L.getD k [] = L[k] := by simp [List.getD_eq_getElem?_getD, hk]
    rw [hgd]
    constructor
    · rintro (⟨a, b⟩ | ⟨a, b⟩)
      · exact ⟨.inl a, b⟩
      · exact ⟨.inr a, b⟩
    · rintro ⟨a | a, b⟩
      · exact .inl ⟨a, b⟩
      · exact .inr ⟨a, b⟩
theorem foldW_has {L : List (List Int)} {k : Nat} (h : k < L.length) : decide (L.getD k [] ∈ foldW L L.length) = decide (0 < (L.getD k []).length) := by
  rw [decide_eq_decide, foldW_mem L _ (Nat.le_refl _), List.take_length]
  have hgd : L.getD k [] = L[k] := by simp [List.getD_eq_getElem?_getD, h]
  rw [hgd, List.length_pos_iff]
  exact ⟨fun a => a.2, fun a => ⟨List.getElem_mem _, a⟩⟩
theorem addW_again {M : List (List Int)} {u : List Int} : addW (addW M u) u = addW M u ∧ newW (addW M u) u = false := by
  unfold addW newW
  by_cases h : u = [] ∨ u ∈ M
  · constructor <;> simp [h]
  · constructor <;> simp [h]
theorem addW_length {M : List (List Int)} {u : List Int} : (addW M u).length = M.length + (if newW M u then 1 else 0) := by
  unfold addW newW
  by_cases h : u = [] ∨ u ∈ M
  · simp [h]
  · simp [h]
set_option maxRecDepth 100000 in
set_option maxHeartbeats 2000000 in
theorem order_calls (A : Option Addr) (c : Nat) (L : List (List Int)) (w : World) (hr : Kd.C (Kd.slice 21 (Kd.int .i32)) w A L.length L) (hz : ∀ u ∈ L, ∀ z ∈ u, (Lit.int .i32 z).wf = true) (hn : L.length ≤ 40) :
    Calls Try.prog 7 #[.slice A L.length c] w fun e w' => e = .returned (.bool true) ∧ Below w.heap.size w w' := by
  have d1 : decide ((40 : Int) < (L.length : Int)) = false := decide_eq_false (by omega)
  have d2 : decide (40 < L.length) = false := decide_eq_false (by omega)
  have HK := Lib.hid (trie_known w)
  have HR := Lib.hid hr
  have HZ := Lib.hid hz
  clear hr hz
  go_enter Try.func7, Try.ntmps7
  go_wp2_with fail
  refine HK.out.mono ?_
  rintro e w1 ⟨rfl, hb⟩
  have hS0 := Held.made w w1 hb
  have hnew := new_calls w1
  obtain ⟨W0, e0⟩ : ∃ W0, (((w1.alloc (.map #[] 0)).alloc (.cells #[.map (some w1.heap.size), .bool false] 70)).alloc (.cells #[.pointer (some ⟨w1.heap.size + 1, 0, none⟩), .int .i64 0] 72)) = W0 := ⟨_, rfl⟩
  rw [e0] at hS0 hnew
  have S0 := Lib.hid hS0
  have HNew := Lib.hid hnew
  clear hS0 hnew e0 hb HK
  go_wp2_with fail
  refine HNew.out.mono ?_
  rintro e w' ⟨rfl, rfl⟩
  generalize w1.heap.size + 1 + 1 = tb at S0 ⊢
  clear HNew d1 d2
  go_wp2_with fail
  go_loopw [4, 5] (fun nn ii wr => ∃ k : Nat, k ≤ L.length ∧ ii = .int .i64 k ∧ nn = .int .i64 ((foldW L k).length : Int) ∧ Hid (Held w.heap.size w wr tb (80 * k) (foldW L k)) ∧ Hid (∀ i, i < k → (L.getD i []).length ≤ 30)) (fun _ ii _ => L.length - (intOf ii).toNat)
  case atStart => exact ⟨0, Nat.zero_le _, rfl, rfl, S0, Lib.hid (fun i hi => absurd hi (Nat.not_lt_zero _))⟩
  case round =>
    obtain ⟨k, hk, rfl, rfl, S, H30⟩ := hrel
    by_cases hlt : k < L.length
    · obtain ⟨b, off, A', c', rfl, hcw, hC, hlc⟩ := row_word HR.out hlt
      have hcr := cell_b S.out.below hcw
      have hi1 : (k : Int) < L.length := by omega
      have hwf : ∀ z ∈ L.getD k [], (Lit.int .i32 z).wf = true := HZ.out _ (by rw [show L.getD k [] = L[k] by simp [List.getD_eq_getElem?_getD, hlt]]; exact List.getElem_mem _)
      have hsucc := foldW_succ hlt
      have h30s : (L.getD k []).length ≤ 30 → ∀ i, i < k + 1 → (L.getD i []).length ≤ 30 := fun h i hi => by
        by_cases e : i = k
        · rw [e]; exact h
        · exact H30.out i (by omega)
      generalize L.getD k [] = u at hcw hC hlc hcr hwf hsucc h30s
      by_cases h30 : 30 < u.length
      · have f1 : decide ((30 : Int) < (u.length : Int)) = true := decide_eq_true (by omega)
        have f2 : decide (30 < u.length) = true := decide_eq_true h30
        have HB := Lib.hid S.out.below
        clear hcw hC hsucc hwf h30s
        go_wp2
        go_ret
        exact ⟨rfl, HB.out⟩
      · have f1 : decide ((30 : Int) < (u.length : Int)) = false := decide_eq_false (by omega)
        have f2 : decide (30 < u.length) = false := decide_eq_false h30
        have HW := Lib.hid (WordAt.arg hC hwf (by omega))
        have HCW := Lib.hid hcw
        have HSU := Lib.hid hsucc
        have HS30 := Lib.hid (h30s (by omega))
        clear h30s
        have hadd := S.out.add (c := c') (HW.out.below S.out.below) (by omega) (by omega)
        have hlen := addW_length (M := foldW L k) (u := u)
        have hml : (foldW L k).length ≤ 80 * k := by obtain ⟨_, _, _, _, q, _⟩ := S.out; exact q
        cases hnw : newW (foldW L k) u with
        | false =>
          rw [hnw] at hadd hlen
          have HA := Lib.hid hadd
          have HL := Lib.hid hlen
          clear hadd hlen hnw hC hcw hwf hsucc
          go_wp2_with fail
          refine HA.out.mono ?_
          rintro e w4 ⟨rfl, hS, _⟩
          have hc4 := cell_b hS.below HCW.out
          have hadd := hS.add (c := c') (HW.out.below hS.below) (by omega) (by omega)
          rw [addW_again.1, addW_again.2] at hadd
          have HA2 := Lib.hid hadd
          clear hadd hS HA hcr
          go_wp2_with fail
          refine HA2.out.mono ?_
          rintro e w5 ⟨rfl, hS, _⟩
          rw [← HSU.out] at hS
          have S5 := Lib.hid (hS.up (nb' := 80 * (k + 1)) (by omega))
          clear hS HA2 hc4
          go_wp2
          go_roundw
          case rel => exact ⟨k + 1, by omega, by go_num, by rw [HSU.out, HL.out]; simp, S5, HS30⟩
          case measure => simp [intOf]; omega
        | true =>
          rw [hnw] at hadd hlen
          have HA := Lib.hid hadd
          have HL := Lib.hid hlen
          clear hadd hlen hnw hC hcw hwf hsucc
          go_wp2_with fail
          refine HA.out.mono ?_
          rintro e w4 ⟨rfl, hS, _⟩
          have hc4 := cell_b hS.below HCW.out
          have hadd := hS.add (c := c') (HW.out.below hS.below) (by omega) (by omega)
          rw [addW_again.1, addW_again.2] at hadd
          have HA2 := Lib.hid hadd
          clear hadd hS HA hcr
          go_wp2_with fail
          refine HA2.out.mono ?_
          rintro e w5 ⟨rfl, hS, _⟩
          rw [← HSU.out] at hS
          have S5 := Lib.hid (hS.up (nb' := 80 * (k + 1)) (by omega))
          clear hS HA2 hc4
          go_wp2
          go_roundw
          case rel => exact ⟨k + 1, by omega, by go_num, by rw [HSU.out, HL.out]; simp, S5, HS30⟩
          case measure => simp [intOf]; omega
    · obtain rfl : k = L.length := by omega
      have hml : (foldW L L.length).length ≤ 80 * L.length := by obtain ⟨_, _, _, _, q, _⟩ := S.out; exact q
      have HA := Lib.hid (S.out.all (by omega))
      have HHas := Lib.hid (fun (i : Nat) (h : i < L.length) => foldW_has h)
      generalize foldW L L.length = M at HA HHas hml ⊢
      clear S
      go_wp2_with fail
      refine HA.out.mono ?_
      rintro e w2 ⟨A9, c9, La, rfl, hR, hp, hpw, hS, _⟩
      have hll : La.length = M.length := hp.length_eq
      have HLL := Lib.hid hll
      have hla : La.length ≤ 4000 := by omega
      have HPW := Lib.hid hpw
      have hlw : ∀ u ∈ La, u.length < 4611686018427387904 := fun u hu => by
        have hm := hp.mem_iff.1 hu
        obtain ⟨N, g, St, _, _, q, _, _, hd⟩ := hS
        have h1 := q u
        rw [decide_eq_true hm] at h1
        have h2 := hd u.reverse (fun e => by unfold isWord at h1; rw [e] at h1; cases h1)
        rw [List.length_reverse] at h2; omega
      have HLW := Lib.hid hlw
      have R2 := Lib.hid hR
      have S2 := Lib.hid hS
      clear hR hp hpw hS hll hlw HA
      go_wp2
      go_loopw [7] (fun ii wr => ∃ k : Nat, 1 ≤ k ∧ k ≤ La.length + 1 ∧ ii = .int .i64 k ∧ Hid (Held w.heap.size w wr tb (80 * L.length) M) ∧ Hid (RowsAt wr (.slice A9 La.length c9) La)) (fun ii _ => La.length + 1 - (intOf ii).toNat)
      case atStart => exact ⟨1, by omega, by omega, rfl, S2, R2⟩
      case round =>
        obtain ⟨k, hk1, hk2, rfl, S3, R3⟩ := hrel
        by_cases hlt : k < La.length
        · obtain ⟨g, Ax, cx, rfl, hcx, hrx⟩ := R3.out.cell (k := k - 1) (by omega)
          obtain ⟨g', Ay, cy, e', hcy, hry⟩ := R3.out.cell (k := k) hlt
          cases e'
          have hless : ltL (La.getD (k - 1) []) (La.getD k []) = true := by
            rw [show La.getD (k - 1) [] = La[k - 1] by simp [List.getD_eq_getElem?_getD, show k - 1 < La.length by omega], show La.getD k [] = La[k] by simp [List.getD_eq_getElem?_getD, hlt]]
            exact List.pairwise_iff_getElem.1 HPW.out (k - 1) k (by omega) hlt (by omega)
          have hlx : (La.getD (k - 1) []).length < 4611686018427387904 := HLW.out _ (by rw [show La.getD (k - 1) [] = La[k - 1] by simp [List.getD_eq_getElem?_getD, show k - 1 < La.length by omega]]; exact List.getElem_mem _)
          generalize La.getD (k - 1) [] = x at hcx hrx hless hlx
          generalize La.getD k [] = y at hcy hry hless
          obtain ⟨kk, hf⟩ := (less_ev x y hlx).get
          rw [hless] at hf
          obtain ⟨Ax', cx', ex, hCx, hlcx⟩ := hrx.le
          simp only [Value.slice.injEq, true_and] at ex
          obtain ⟨rfl, rfl⟩ := ex
          obtain ⟨Ay', cy', ey, hCy, hlcy⟩ := hry.le
          simp only [Value.slice.injEq, true_and] at ey
          obtain ⟨rfl, rfl⟩ := ey
          have HF := Lib.hid hf
          have HCX := Lib.hid hCx
          have HCY := Lib.hid hCy
          have HXL := Lib.hid hlcx
          have HYL := Lib.hid hlcy
          have HLESS : Hid (∀ n, Calls Try.prog 28 #[.slice Ax x.length cx, .slice Ay y.length cy] (wr.drewN n) fun e w' => e = .returned (.bool true) ∧ ∃ m, w' = (wr.drewN n).drewN m) := Lib.hid (fun n =>
            (hornbooklaw16_less.calls kk Ax cx x Ay cy y true _ (Kd.C_drewN HCX.out n) HXL.out (Kd.C_drewN HCY.out n) HYL.out HF.out).mono fun e w' ⟨h1, h2⟩ => ⟨h1, h2.out⟩)
          have b0 : (1 : Int) ≤ (k : Int) := by omega
          have b1 : (0 : Int) ≤ (k : Int) - 1 := by omega
          have b2 : (k : Int) - 1 < La.length := by omega
          have b3 : (k : Int) < La.length := by omega
          have b4 : IntKind.i64.wrap ((k : Int) - 1) = (k : Int) - 1 := IntWalk.i64_in _ (by omega)
          have b5 : ((k : Int) - 1).toNat = k - 1 := by omega
          clear hf hless hrx hry hCx hCy hlx hlcx hlcy
          go_wp2
          go_quiet ((go_at_call 28; exact Calls.quiet_of (HLESS.out _)))
          have S4 := Lib.hid (S3.out.step (below_d (Below.refl _ _) nq))
          have R4 := Lib.hid (R3.out.below (below_d (Below.refl _ _) nq))
          clear b4 b5 S3 R3
          go_wp2
          go_roundw
          case rel => exact ⟨k + 1, by omega, by omega, by go_num, S4, R4⟩
          case measure => simp [intOf]; omega
        · have e3 : decide ((k : Int) < (La.length : Int)) = false := decide_eq_false (by omega)
          have e4 : decide (k < La.length) = false := decide_eq_false hlt
          clear R3 HPW HLW
          go_wp2
          clear e3 e4
          go_loopw [8] (fun ii wr => ∃ k : Nat, k ≤ L.length ∧ ii = .int .i64 k ∧ Hid (Held w.heap.size w wr tb (80 * L.length) M)) (fun ii _ => L.length - (intOf ii).toNat)
          case atStart => exact ⟨0, by omega, rfl, S3⟩
          case round =>
            clear S3
            obtain ⟨j, hj, rfl, S4⟩ := hrel
            by_cases hjl : j < L.length
            · obtain ⟨b, off, A', c', rfl, hcw, hC, hlc⟩ := row_word HR.out hjl
              have hwf : ∀ z ∈ L.getD j [], (Lit.int .i32 z).wf = true := HZ.out _ (by rw [show L.getD j [] = L[j] by simp [List.getD_eq_getElem?_getD, hjl]]; exact List.getElem_mem _)
              have hhas := HHas.out j hjl
              have hl30 := H30.out j hjl
              generalize L.getD j [] = u at hcw hC hlc hwf hhas hl30
              have hcr := cell_b S4.out.below hcw
              have HW := Lib.hid (WordAt.arg hC hwf (by omega))
              have HCW := Lib.hid hcw
              have HASC := Lib.hid (fun (W : World) (hb : Below wr.heap.size wr W) => (S4.out.step hb).has (c := c') (HW.out.below (S4.out.step hb).below))
              have b3 : (j : Int) < L.length := by omega
              clear hcw hC hwf HW
              cases hp : decide (0 < u.length) with
              | true =>
                rw [hp] at hhas
                rw [hhas] at HASC
                have hp2 : decide ((0 : Int) < (u.length : Int)) = true := decide_eq_true (by have := of_decide_eq_true hp; omega)
                clear hhas
                go_wp2
                go_region_with ((go_at_call 29; refine (HASC.out _ (by first | exact Below.refl _ _ | exact below_d (Below.refl _ _) _ | exact below_dr (Below.refl _ _))).mono ?_; rintro e w9 ⟨rfl, hS9, _⟩; have hc9 := cell_b hS9.below HCW.out; have S9 := Lib.hid hS9; clear hS9))
                all_goals
                  go_wp2
                  go_roundw
                  case rel => exact ⟨j + 1, by omega, by go_num, S9⟩
                  case measure => simp [intOf]; omega
              | false =>
                rw [hp] at hhas
                rw [hhas] at HASC
                have hp2 : decide ((0 : Int) < (u.length : Int)) = false := decide_eq_false (by have := of_decide_eq_false hp; omega)
                clear hhas
                go_wp2
                go_region_with ((go_at_call 29; refine (HASC.out _ (by first | exact Below.refl _ _ | exact below_d (Below.refl _ _) _ | exact below_dr (Below.refl _ _))).mono ?_; rintro e w9 ⟨rfl, hS9, _⟩; have hc9 := cell_b hS9.below HCW.out; have S9 := Lib.hid hS9; clear hS9))
                all_goals
                  go_wp2
                  go_roundw
                  case rel => exact ⟨j + 1, by omega, by go_num, S9⟩
                  case measure => simp [intOf]; omega
            · obtain rfl : j = L.length := by omega
              have HL := Lib.hid S4.out.len
              have HB := Lib.hid S4.out.below
              have e5 : ((La.length : Int) == (M.length : Int)) = true := by rw [HLL.out]; simp
              have e6 : decide (La.length = M.length) = true := decide_eq_true HLL.out
              clear S4
              go_wp2_with fail
              refine HL.out.mono ?_
              rintro e w8 ⟨rfl, rfl⟩
              go_wp2
              go_ret
              exact ⟨rfl, HB.out⟩
set_option maxRecDepth 100000 in
theorem order_many (A : Option Addr) (c n : Nat) (w : World) (h : 40 < n) :
    Calls Try.prog 7 #[.slice A n c] w fun e w' => e = .returned (.bool true) ∧ Below w.heap.size w w' := by
  have d1 : decide ((40 : Int) < (n : Int)) = true := decide_eq_true (by omega)
  have d2 : decide (40 < n) = true := decide_eq_true h
  have HK := Lib.hid (trie_known w)
  clear h
  go_enter Try.func7, Try.ntmps7
  go_wp2_with (refine HK.out.mono ?_; rintro e w1 ⟨rfl, hb⟩; have HB := Lib.hid hb; clear hb)
  go_ret
  exact ⟨rfl, HB.out⟩
theorem order_law (A : Option Addr) (c : Nat) (L : List (List Int)) (w : World) (hr : Kd.C (Kd.slice 21 (Kd.int .i32)) w A L.length L) (_hc : L.length ≤ c) (hz : ∀ u ∈ L, ∀ z ∈ u, (Lit.int .i32 z).wf = true) :
    Calls Try.prog 7 #[.slice A L.length c] w fun e w' => e = .returned (.bool true) ∧ Below w.heap.size w w' := by
  by_cases h : 40 < L.length
  · exact order_many A c L.length w h
  · exact order_calls A c L w hr hz (by omega)
end Go.Proofs.Yteaadpgammbdgaa.PA
