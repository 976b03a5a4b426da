/- The walk of TrieEnds: all ends of one word. -/
import Derived.Test.YteaadpgammbdgaaTrieKnown
namespace Go.Proofs.Yteaadpgammbdgaa.PA
open Go.RowKit Go.Shelf Go.Proofs.YteaadpgammbdgaaW.PrintWords Go.Proofs.YteaadpgammbdgaaW.PrintLast Go.Proofs.YteaadpgammbdgaaW.PrintMore
set_option linter.unusedVariables false
set_option linter.unusedSimpArgs false

/-- Whether a bit is set, as the code asks it. -/
def bitB (m : Int) (k : Nat) : Bool := bits BinOp.and IntKind.u32 (m / 2 ^ k) 1 == 1
/-- The set bits, from the first one up to k. -/
def up (m : Int) : Nat → List Int
  | 0 => []
  | k + 1 => up m k ++ (if bitB m (k + 1) = true then [((k + 1 : Nat) : Int)] else [])
/-- The ends of a word that are listed: those of as many code points as a set bit says. -/
def wu (m : Int) (rev : List Int) : Nat → List Int → Bool
  | 0, _ => false
  | k + 1, q => wu m rev k q || (bitB m (k + 1) && decide (q = rev.take (k + 1)))
theorem up_step {m : Int} {k : Nat} (h : 1 ≤ k) : up m k = up m (k - 1) ++ (if bitB m k = true then [(k : Int)] else []) := by
  obtain ⟨j, rfl⟩ : ∃ j, k = j + 1 := ⟨k - 1, by omega⟩
  rfl
theorem wu_step {m : Int} {rev : List Int} {k : Nat} (h : 1 ≤ k) (q : List Int) : wu m rev k q = (wu m rev (k - 1) q || (bitB m k && decide (q = rev.take k))) := by
  obtain ⟨j, rfl⟩ : ∃ j, k = j + 1 := ⟨k - 1, by omega⟩
  rfl
theorem take_inj {rev : List Int} {i j : Nat} (hi : i ≤ rev.length) (hj : j ≤ rev.length) : rev.take i = rev.take j ↔ i = j := by
  constructor
  · intro e
    have := congrArg List.length e
    rw [List.length_take, List.length_take] at this
    omega
  · rintro rfl; rfl
theorem wu_take {m : Int} {rev : List Int} : ∀ (j : Nat), j ≤ rev.length → ∀ i, 1 ≤ i → i ≤ rev.length → wu m rev j (rev.take i) = (decide (i ≤ j) && bitB m i)
  | 0, _, i, h1, _ => by
    have : ¬ i ≤ 0 := by omega
    simp [wu, this]
  | j + 1, hj, i, h1, h2 => by
    rw [wu, wu_take j (by omega) i h1 h2]
    by_cases e : i = j + 1
    · subst e
      have : ¬ j + 1 ≤ j := by omega
      simp [this]
    · have e2 : ¬ rev.take i = rev.take (j + 1) := fun q => e ((take_inj h2 hj).1 q)
      rw [decide_eq_false e2, Bool.and_false, Bool.or_false]
      congr 1
      rw [Bool.eq_iff_iff]; simp; omega
theorem up_length (m : Int) : ∀ k, (up m k).length ≤ k
  | 0 => Nat.le_refl _
  | k + 1 => by
    have := up_length m k
    rw [up, List.length_append]
    split <;> simp <;> omega
theorem up_prefix (m : Int) (k : Nat) : ∀ d, ∃ r, up m (k + d) = up m k ++ r
  | 0 => ⟨[], by simp⟩
  | d + 1 => by
    obtain ⟨r, h⟩ := up_prefix m k d
    exact ⟨r ++ (if bitB m (k + d + 1) = true then [((k + d + 1 : Nat) : Int)] else []), by rw [← Nat.add_assoc, up, h, List.append_assoc]⟩
theorem ends_up {m : Int} {g : Gh} {zs : List Int} (hw : ∀ q, isWord g q = wu m zs.reverse zs.length q) : ∀ j, j ≤ zs.length → endsUp g zs zs.length j = up m j
  | 0, _ => rfl
  | j + 1, h => by
    have ha : ahead zs zs.length (j + 1) = zs.reverse.take (j + 1) := by unfold ahead; rw [List.take_length]
    rw [endsUp, up, ends_up hw j (by omega), ha, hw, wu_take zs.length (by simp) (j + 1) (by omega) (by simpa using h), decide_eq_true h, Bool.true_and]
/-- An end of a word, as a word. -/
theorem WordAt.tail {w : World} {A : Option Addr} {c : Nat} {zs : List Int} (hr : Kd.C (Kd.int .i32) w A zs.length zs) (hc : zs.length ≤ c) (hz : ∀ z ∈ zs, (Lit.int .i32 z).wf = true) (hl : zs.length ≤ 20) {k : Nat} (h1 : 1 ≤ k) (h2 : k ≤ zs.length) :
    WordAt w.heap.size w (A.map (fun x => x.add (zs.length - k))) (zs.drop (zs.length - k)) := by
  have hd := Kd.C_drop hr (m := zs.length - k) (by omega) hc
  rw [if_neg (by omega), show (Kd.int .i32).sz = 1 from rfl] at hd
  simp only [Nat.mul_one] at hd
  refine ⟨hd, fun a ha hn => ?_, fun z hz' => hz z (List.mem_of_mem_drop hz'), by rw [List.length_drop]; omega⟩
  obtain ⟨b, off, rfl, hb⟩ := C_plain hr (by omega) (by decide)
  simp only [Option.map_some, Option.some.injEq] at ha
  subst ha
  rw [add_none]
  exact ⟨_, Array.getElem?_eq_getElem hb, .inl hb⟩

set_option maxRecDepth 100000 in
set_option maxHeartbeats 4000000 in
theorem tends_calls (A : Option Addr) (c : Nat) (zs : List Int) (m : Int) (w : World) (hr : Kd.C (Kd.int .i32) w A zs.length zs) (hc : zs.length ≤ c) (hz : ∀ z ∈ zs, (Lit.int .i32 z).wf = true) (hm : (Lit.int .u32 m).wf = true) (h0 : 0 < zs.length) (hl : zs.length ≤ 20) :
    Calls Try.prog 3 #[.slice A zs.length c, .int .u32 m] w fun e w' => e = .returned (.bool true) ∧ Below w.heap.size w w' := by
  have d1 : decide ((20 : Int) < (zs.length : Int)) = false := decide_eq_false (by omega)
  have d2 : decide (20 < zs.length) = false := decide_eq_false (by omega)
  have d3 : ((zs.length : Int) == 0) = false := by simp; intro e; rw [e] at h0; simp at h0
  have d4 : decide (zs.length = 0) = false := by simp; intro e; rw [e] at h0; simp at h0
  have HK := Lib.hid (trie_known w)
  have HR := Lib.hid hr
  have HZ := Lib.hid hz
  clear hr hz
  go_enter Try.func3, Try.ntmps3
  go_wp2_with fail
  refine HK.out.mono ?_
  rintro e w1 ⟨rfl, hb⟩
  have hS0 := St.made w w1 hb
  have hg0 := gNew_word w1
  have hnew := new_calls w1
  obtain ⟨W1, e1⟩ : ∃ W1, (((w1.alloc (.map #[] 0)).alloc (.cells #[.map (some w1.heap.size), .bool false] 70)).alloc (.cells #[.pointer (some ⟨w1.heap.size + 1, 0, none⟩), .int .i64 0] 72)) = W1 := ⟨_, rfl⟩
  rw [e1] at hS0 hnew
  generalize gNew w1 = g0 at hS0 hg0
  have S0 := Lib.hid hS0
  have G0 := Lib.hid hg0
  have HNew := Lib.hid hnew
  clear hS0 hg0 hnew e1 hb HK
  go_wp2_with fail
  refine HNew.out.mono ?_
  rintro e w' ⟨rfl, rfl⟩
  generalize w1.heap.size + 1 + 1 = tb at S0 ⊢
  clear HNew d1 d2 d3 d4
  go_wp2_with fail
  go_loopw [6, 7] (fun nn kk wr => ∃ (k N : Nat) (g : Gh), 1 ≤ k ∧ k ≤ zs.length + 1 ∧ kk = .int .i64 k ∧ nn = .int .i64 ((up m (k - 1)).length : Int) ∧ N ≤ 20 * k ∧ Hid (St w.heap.size w wr tb N (up m (k - 1)).length g) ∧ Hid (∀ q, isWord g q = wu m zs.reverse (k - 1) q)) (fun _ kk _ => zs.length + 1 - (intOf kk).toNat)
  case atStart => exact ⟨1, 0, g0, by omega, by omega, rfl, rfl, by omega, S0, Lib.hid (fun q => by rw [G0.out]; rfl)⟩
  case round =>
    obtain ⟨k, N, g, hk1, hk2, rfl, rfl, hN, S, G⟩ := hrel
    by_cases hlt : k ≤ zs.length
    · have hb1 : (1 : Int) ≤ k := by omega
      have hb2 : (k : Int) ≤ zs.length := by omega
      have hm2 : 0 ≤ m ∧ m ≤ 4294967295 := by simp [Lit.wf, IntKind.min, IntKind.max, IntKind.signed, IntKind.bits] at hm; omega
      have hup := up_step (m := m) hk1
      have hwu := wu_step (m := m) (rev := zs.reverse) hk1
      have hul := up_length m (k - 1)
      cases hbit : bitB m k with
      | false =>
        rw [hbit] at hup
        simp only [hbit, Bool.false_and, Bool.or_false] at hwu
        rw [if_neg (by decide), List.append_nil] at hup
        have HU := Lib.hid hup
        have HW := Lib.hid hwu
        unfold bitB at hbit
        clear hup hwu
        go_wp2
        exact ⟨⟨k + 1, N, g, by omega, by omega, by go_num, by rw [Nat.add_sub_cancel, HU.out], by omega, by rw [Nat.add_sub_cancel, HU.out]; exact S, by rw [Nat.add_sub_cancel]; exact Lib.hid (fun q => by rw [G.out, HW.out])⟩, by simp [intOf]; omega⟩
      | true =>
        rw [hbit] at hup
        simp only [hbit, Bool.true_and] at hwu
        rw [if_pos rfl] at hup
        have hrev : (zs.drop (zs.length - k)).reverse = zs.reverse.take k := (List.take_reverse ..).symm
        have hno : isWord g (zs.drop (zs.length - k)).reverse = false := by
          rw [hrev, G.out, wu_take (k - 1) (by simp; omega) k hk1 (by simpa using hlt)]
          have : ¬ k ≤ k - 1 := by omega
          simp [this]
        have hld : (zs.drop (zs.length - k)).length = k := by rw [List.length_drop]; omega
        have hadd := S.out.add (c := c - (zs.length - k)) ((WordAt.tail HR.out hc HZ.out hl hk1 hlt).below S.out.below) (by rw [hld]; omega) hno (by rw [hld]; unfold maxLen; omega) (by omega)
        rw [List.length_drop] at hadd
        have HA := Lib.hid hadd
        have HU := Lib.hid hup
        have HW := Lib.hid hwu
        have HV := Lib.hid hrev
        have HL := Lib.hid hld
        unfold bitB at hbit
        clear hadd hup hwu hno hrev hld
        go_wp2_with fail
        refine HA.out.mono ?_
        rintro e w4 ⟨rfl, g', hS', hg'⟩
        have S' := Lib.hid hS'
        have G' := Lib.hid hg'
        clear hS' hg'
        go_wp2
        refine ⟨⟨k + 1, N + (zs.drop (zs.length - k)).length, g', by omega, by omega, by go_num, ?_, by rw [HL.out]; omega, ?_, ?_⟩, by simp [intOf]; omega⟩
        · rw [Nat.add_sub_cancel, HU.out, List.length_append]; simp
        · rw [Nat.add_sub_cancel, HU.out, List.length_append]; exact S'
        · rw [Nat.add_sub_cancel]; exact Lib.hid (fun q => by rw [G'.out, G.out, HW.out, HV.out])
    · obtain rfl : k = zs.length + 1 := by omega
      rw [Nat.add_sub_cancel] at S G ⊢
      have hends := S.out.ends (c := c) (tz := zs.length) (zs := zs) (A := A) ⟨Kd.C_below HR.out S.out.below, fun a ha hn => by
        obtain ⟨o, ho, hB⟩ := word_calm HR.out a ha hn
        exact ⟨o, (S.out.below.block _ (Array.getElem?_eq_some_iff.1 ho).1).trans ho, hB⟩, HZ.out, by omega⟩ (Nat.le_refl _) (by omega)
      rw [ends_up G.out zs.length (Nat.le_refl _)] at hends
      have HE := Lib.hid hends
      clear hends
      go_wp2_with fail
      refine HE.out.mono ?_
      rintro e w5 ⟨A2, c2, rfl, hC, hS5⟩
      have HC := Lib.hid hC
      have S5 := Lib.hid hS5
      clear hC hS5
      have d5 : decide (((zs.length : Int) + 1) ≤ (zs.length : Int)) = false := decide_eq_false (by omega)
      go_wp2
      clear d5
      go_loop [9, 10] (fun nn kk => ∃ k : Nat, 1 ≤ k ∧ k ≤ zs.length + 1 ∧ kk = .int .i64 k ∧ nn = .int .i64 ((up m (k - 1)).length : Int)) (fun _ kk => zs.length + 1 - (intOf kk).toNat)
      case atStart => exact ⟨1, by omega, by omega, rfl, rfl⟩
      case round =>
        obtain ⟨k, hk1, hk2, rfl, rfl⟩ := hrel
        by_cases hlt : k ≤ zs.length
        · have hb1 : (1 : Int) ≤ k := by omega
          have hb2 : (k : Int) ≤ zs.length := by omega
          have hm2 : 0 ≤ m ∧ m ≤ 4294967295 := by simp [Lit.wf, IntKind.min, IntKind.max, IntKind.signed, IntKind.bits] at hm; omega
          have hup := up_step (m := m) hk1
          have hul := up_length m (k - 1)
          cases hbit : bitB m k with
          | false =>
            rw [hbit, if_neg (by decide), List.append_nil] at hup
            have HU := Lib.hid hup
            unfold bitB at hbit
            clear hup
            go_wp2
            exact ⟨⟨k + 1, by omega, by omega, by go_num, by rw [Nat.add_sub_cancel, HU.out]⟩, by simp [intOf]; omega⟩
          | true =>
            rw [hbit, if_pos rfl] at hup
            obtain ⟨r, hr⟩ := up_prefix m k (zs.length - k)
            rw [show k + (zs.length - k) = zs.length by omega, hup] at hr
            have hx : rd (up m zs.length) ((up m (k - 1)).length : Int) = (k : Int) := by
              rw [hr]; simp [rd]
            have hlen : (up m (k - 1)).length < (up m zs.length).length := by
              rw [hr]; simp
            obtain ⟨ad, rfl, hc8⟩ := Kd.at_int HC.out ((up m (k - 1)).length : Int) (by omega) (by omega)
            rw [hx, Int.toNat_natCast] at hc8
            have HU := Lib.hid hup
            unfold bitB at hbit
            have b3 : ((up m (k - 1)).length : Int) < ((up m zs.length).length : Int) := by omega
            have b4 : decide ((up m zs.length).length ≤ (up m (k - 1)).length) = false := decide_eq_false (by omega)
            have b5 : decide (((up m zs.length).length : Int) ≤ ((up m (k - 1)).length : Int)) = false := decide_eq_false (by omega)
            clear hup hr hx hlen
            go_wp2
            refine ⟨⟨k + 1, by omega, by omega, by go_num, ?_⟩, by simp [intOf]; omega⟩
            rw [Nat.add_sub_cancel, HU.out, List.length_append]; simp
        · obtain rfl : k = zs.length + 1 := by omega
          rw [Nat.add_sub_cancel]
          have hLen := len_calls S5.out.trie
          have HL := Lib.hid hLen
          have d5 : decide (((zs.length : Int) + 1) ≤ (zs.length : Int)) = false := decide_eq_false (by omega)
          clear hLen
          go_wp2_with fail
          refine HL.out.mono ?_
          rintro e w6 ⟨rfl, rfl⟩
          go_wp2_with fail
          refine (ends_none (tb := tb) (c := c) (A := A) (m := zs.length) (tz := -1) (.inl (by decide))).mono ?_
          rintro e w7 ⟨rfl, rfl⟩
          go_wp2_with fail
          refine (ends_none (tb := tb) (c := c) (A := A) (m := zs.length) (tz := (zs.length : Int) + 1) (.inr (by omega))).mono ?_
          rintro e w8 ⟨rfl, rfl⟩
          have he0 := S5.out.ends (c := c) (tz := 0) (zs := zs) (A := A) ⟨Kd.C_below HR.out S5.out.below, fun a ha hn => by
            obtain ⟨o, ho, hB⟩ := word_calm HR.out a ha hn
            exact ⟨o, (S5.out.below.block _ (Array.getElem?_eq_some_iff.1 ho).1).trans ho, hB⟩, HZ.out, by omega⟩ (Nat.zero_le _) (by omega)
          rw [show ((0 : Nat) : Int) = 0 from rfl, show endsUp g zs 0 0 = [] from rfl] at he0
          have HE0 := Lib.hid he0
          clear he0
          go_wp2_with fail
          refine HE0.out.mono ?_
          rintro e w9 ⟨A3, c3, rfl, hC3, hS9⟩
          have HB9 := Lib.hid hS9.below
          clear hC3 hS9
          go_wp2
          go_ret
          exact ⟨rfl, HB9.out⟩
set_option maxRecDepth 100000 in
theorem tends_other (A : Option Addr) (c : Nat) (n : Nat) (m : Int) (w : World) (h : n = 0 ∨ 20 < n) :
    Calls Try.prog 3 #[.slice A n c, .int .u32 m] w fun e w' => e = .returned (.bool true) ∧ Below w.heap.size w w' := by
  have HK := Lib.hid (trie_known w)
  by_cases h2 : 20 < n
  · have d1 : decide ((20 : Int) < (n : Int)) = true := decide_eq_true (by omega)
    have d2 : decide (20 < n) = true := decide_eq_true h2
    clear h h2
    go_enter Try.func3, Try.ntmps3
    go_wp2_with (refine HK.out.mono ?_; rintro e w1 ⟨rfl, hb⟩; have HB := Lib.hid hb; clear hb)
    go_ret
    exact ⟨rfl, HB.out⟩
  · obtain rfl : n = 0 := by omega
    clear h h2
    go_enter Try.func3, Try.ntmps3
    go_wp2_with (refine HK.out.mono ?_; rintro e w1 ⟨rfl, hb⟩; have HB := Lib.hid hb; clear hb)
    go_ret
    exact ⟨rfl, HB.out⟩
end Go.Proofs.Yteaadpgammbdgaa.PA
