/- TrieGoes: the walk. -/
import Derived.Test.YteaadpgammbdgaaHold
import Derived.Test.YteaadpgammbdgaaAppendC
namespace Go.Proofs.Yteaadpgammbdgaa.PA
open Go.RowKit Go.Shelf Go.Proofs.YteaadpgammbdgaaW.PrintWords Go.Proofs.YteaadpgammbdgaaW.PrintLast Go.Proofs.YteaadpgammbdgaaW.PrintMore
set_option linter.unusedVariables false
set_option linter.unusedSimpArgs false

/-- A word that came in. -/
theorem WordAt.arg {w : World} {A : Option Addr} {zs : List Int} (hr : Kd.C (Kd.int .i32) w A zs.length zs) (hz : ∀ z ∈ zs, (Lit.int .i32 z).wf = true) (hl : zs.length ≤ 1000) : WordAt w.heap.size w A zs :=
  ⟨hr, word_calm hr, hz, by omega⟩
theorem goes_addc (a c : List Int) (ha : a ≠ []) : newW [a] c = (!decide (c = []) && !decide (a = c)) := by
  unfold newW
  by_cases h1 : c = []
  · simp [h1]
  · by_cases h2 : a = c
    · simp [h1, h2]
    · have : ¬ c = a := fun e => h2 e.symm
      simp [h1, h2, this]
theorem goes_left (a c : List Int) (ha : a ≠ []) : ((addW [a] c).erase c).erase a = [] := by
  unfold addW
  by_cases h1 : c = []
  · subst h1
    have : ¬ a = [] := ha
    simp [List.erase_cons, this]
  · by_cases h2 : c = a
    · subst h2; simp
    · simp [h1, h2]
theorem endsM_nil (text : List Int) (tz : Nat) : ∀ k, endsM [] text tz k = []
  | 0 => rfl
  | k + 1 => by rw [endsM, endsM_nil text tz k]; simp
set_option maxRecDepth 100000 in
set_option maxHeartbeats 2000000 in
theorem goes_calls (A1 A2 A3 : Option Addr) (c1 c2 c3 : Nat) (a b c : List Int) (w : World)
    (h1 : Kd.C (Kd.int .i32) w A1 a.length a) (h2 : Kd.C (Kd.int .i32) w A2 b.length b) (h3 : Kd.C (Kd.int .i32) w A3 c.length c)
    (k1 : a.length ≤ c1) (k3 : c.length ≤ c3)
    (z1 : ∀ z ∈ a, (Lit.int .i32 z).wf = true) (z2 : ∀ z ∈ b, (Lit.int .i32 z).wf = true) (z3 : ∀ z ∈ c, (Lit.int .i32 z).wf = true)
    (l1 : a.length ≤ 20) (l2 : b.length ≤ 20) (l3 : c.length ≤ 20) (n1 : a ≠ []) (n2 : b ≠ []) :
    Calls Try.prog 11 #[.slice A1 a.length c1, .slice A2 b.length c2, .slice A3 c.length c3] w fun e w' => e = .returned (.bool true) ∧ Below w.heap.size w w' := by
  have p1 : 0 < a.length := by cases a with | nil => exact absurd rfl n1 | cons _ _ => simp
  have p2 : 0 < b.length := by cases b with | nil => exact absurd rfl n2 | cons _ _ => simp
  have W1 := Lib.hid (WordAt.arg h1 z1 (by omega))
  have W3 := Lib.hid (WordAt.arg h3 z3 (by omega))
  have d1 : decide ((20 : Int) < (a.length : Int)) = false := decide_eq_false (by omega)
  have d2 : decide ((20 : Int) < (b.length : Int)) = false := decide_eq_false (by omega)
  have d3 : decide ((20 : Int) < (c.length : Int)) = false := decide_eq_false (by omega)
  have d4 : ((a.length : Int) == 0) = false := by simp; intro e; rw [e] at p1; simp at p1
  have d5 : ((b.length : Int) == 0) = false := by simp; intro e; rw [e] at p2; simp at p2
  have e1 : decide (20 < a.length) = false := decide_eq_false (by omega)
  have e2 : decide (20 < b.length) = false := decide_eq_false (by omega)
  have e3 : decide (20 < c.length) = false := decide_eq_false (by omega)
  have e4 : decide (a.length = 0) = false := decide_eq_false (by omega)
  have e5 : decide (b.length = 0) = false := decide_eq_false (by omega)
  have HK := Lib.hid (trie_known w)
  have H1 := Lib.hid h1
  have H2 := Lib.hid h2
  have H3 := Lib.hid h3
  have Z1 := Lib.hid z1
  have Z2 := Lib.hid z2
  have N1 := Lib.hid n1
  have N2 := Lib.hid n2
  clear h1 h2 h3 z1 z2 z3 n1 n2
  go_enter Try.func11, Try.ntmps11
  go_wp2_with fail
  refine HK.out.mono ?_
  rintro e w1 ⟨rfl, hb⟩
  have hS0 := Held.made w w1 hb
  have hnew := new_calls w1
  obtain ⟨W0, e0⟩ : ∃ W0, (((w1.alloc (.map #[] 0)).alloc (.cells #[.map (some w1.heap.size), .bool false] 70)).alloc (.cells #[.pointer (some ⟨w1.heap.size + 1, 0, none⟩), .int .i64 0] 72)) = W0 := ⟨_, rfl⟩
  rw [e0] at hS0 hnew
  have S0 := Lib.hid hS0
  have HNew := Lib.hid hnew
  clear hS0 hnew e0 hb HK
  go_wp2_with fail
  refine HNew.out.mono ?_
  rintro e w' ⟨rfl, rfl⟩
  generalize w1.heap.size + 1 + 1 = tb at S0 ⊢
  clear HNew d1 d2 d3 d4 e1 e2 e3 e4
  obtain ⟨v1, wa, v2, wb, hr1, hr2, ho, hB⟩ := append_two (W := w') (c := c1) (c' := c2) (Kd.C_below H1.out S0.out.below) (Kd.C_below H2.out S0.out.below) (fun e => by
      obtain ⟨_, _, q, _⟩ := C_plain H1.out p1 (by decide); rw [e] at q; cases q) (fun e => by
      obtain ⟨_, _, q, _⟩ := C_plain H2.out p2 (by decide); rw [e] at q; cases q) (by omega)
  have S1 := Lib.hid (S0.out.step hB)
  have hzab : ∀ z ∈ a ++ b, (Lit.int .i32 z).wf = true := fun z hz => (List.mem_append.1 hz).elim (Z1.out z) (Z2.out z)
  have lab : (a ++ b).length ≤ 40 := by simp; omega
  obtain ⟨A4, c4, rfl, _⟩ := WordRow.reads (row_base ho)
  have hab : WordRow wb (.slice A4 (a ++ b).length c4) (a ++ b) := row_base ho
  have nab : a ++ b ≠ a := fun e => by have := congrArg List.length e; simp at this; exact N2.out this
  have hAB := S1.out.add (c := c4) (hab.at hzab (by omega)) lab (by omega)
  rw [show newW [] (a ++ b) = true by simp [newW, N1.out], show addW [] (a ++ b) = [a ++ b] by simp [addW, N1.out]] at hAB
  have hR4 := Lib.hid hab
  have hZ4 := Lib.hid hzab
  have LAB := Lib.hid lab
  have NAB := Lib.hid nab
  generalize a ++ b = ab at hAB hR4 hZ4 NAB LAB hr1 hr2
  clear ho hB lab nab hab hzab
  have HAB := Lib.hid hAB
  clear hAB
  go_wp2_with (at_builtin; first | (refine wpList_append_eq rfl (.const (.slice none 0 0)) (.tmp 35) 22 rfl hr1 ?_) | (refine wpList_append_eq rfl (.tmp 36) (.tmp 37) 22 rfl hr2 ?_))
  clear hr1 hr2
  refine HAB.out.mono ?_
  rintro e w2 ⟨rfl, hS, hK⟩
  have R2 := Lib.hid (hR4.out.keep hK)
  clear hK hR4
  have hc := hS.has (c := c1) (W1.out.below hS.below)
  rw [decide_eq_false (show ¬ a ∈ [ab] by simp; exact fun e => NAB.out e.symm)] at hc
  have HC := Lib.hid hc
  clear hc hS HAB S1 S0
  go_wp2_with fail
  refine HC.out.mono ?_
  rintro e w3 ⟨rfl, hS, hK⟩
  have R3 := Lib.hid (R2.out.keep hK)
  clear hK R2
  have hc := hS.add (c := c1) (W1.out.below hS.below) (by omega) (by omega)
  rw [show newW [ab] a = true by simp [newW, N1.out]; exact fun e => NAB.out e.symm, show addW [ab] a = [a, ab] by simp [addW, N1.out]; exact fun e => NAB.out e.symm] at hc
  have HC2 := Lib.hid hc
  clear hc hS HC
  go_wp2_with fail
  refine HC2.out.mono ?_
  rintro e w4 ⟨rfl, hS, hK⟩
  have R4 := Lib.hid (R3.out.keep hK)
  clear hK R3
  have hc := hS.drop (c := c4) (R4.out.at hZ4.out (by have := LAB.out; omega)) (by omega)
  rw [decide_eq_true (show ab ∈ [a, ab] by simp), show [a, ab].erase ab = [a] by rw [List.erase_cons_tail (by simpa using fun e : a = ab => NAB.out e.symm)]; simp] at hc
  have HC3 := Lib.hid hc
  clear hc hS HC2
  go_wp2_with fail
  refine HC3.out.mono ?_
  rintro e w5 ⟨rfl, hS, hK⟩
  have R5 := Lib.hid (R4.out.keep hK)
  clear hK R4
  have hc := hS.has (c := c1) (W1.out.below hS.below)
  rw [decide_eq_true (show a ∈ [a] by simp)] at hc
  have HC4 := Lib.hid hc
  clear hc hS HC3
  go_wp2_with fail
  refine HC4.out.mono ?_
  rintro e w6 ⟨rfl, hS, hK⟩
  have R6 := Lib.hid (R5.out.keep hK)
  clear hK R5
  have hc := hS.has (c := c4) (R6.out.at hZ4.out (by have := LAB.out; omega))
  rw [decide_eq_false (show ¬ ab ∈ [a] by simp; exact NAB.out)] at hc
  have HC5 := Lib.hid hc
  clear hc hS HC4
  go_wp2_with fail
  refine HC5.out.mono ?_
  rintro e w7 ⟨rfl, hS, hK⟩
  have R7 := Lib.hid (R6.out.keep hK)
  clear hK R6
  have hc := hS.add (c := c3) (W3.out.below hS.below) (by omega) (by omega)
  rw [goes_addc a c N1.out] at hc
  have hleft := Lib.hid (goes_left a c N1.out)
  generalize addW [a] c = M4 at hc hleft
  obtain ⟨kk, hsame⟩ := (same_ev a c (by omega) (by omega)).get
  by_cases hc0 : c = []
  · rw [decide_eq_true hc0, Bool.not_true, Bool.false_and] at hc
    have q3 : c.length = 0 := by rw [hc0]; rfl
    have b3 : decide ((0 : Int) < (c.length : Int)) = false := decide_eq_false (by omega)
    have b4 : decide (0 < c.length) = false := decide_eq_false (by omega)
    have HC6 := Lib.hid hc
    clear hc hS HC5 hsame hc0 q3
    go_wp2_with fail
    refine HC6.out.mono ?_
    rintro e w8 ⟨rfl, hS, hK⟩
    have R8 := Lib.hid (R7.out.keep hK)
    clear hK R7 HC6
    have hc := hS.drop (c := c3) (W3.out.below hS.below) (by omega)
    generalize decide (c ∈ M4) = bd at hc
    have HC7 := Lib.hid hc
    clear hc hS
    go_wp2_with fail
    refine HC7.out.mono ?_
    rintro e wd1 ⟨rfl, hS, hK⟩
    have RD1 := Lib.hid (R8.out.keep hK)
    have hc := hS.drop (c := c1) (W1.out.below hS.below) (by omega)
    rw [hleft.out] at hc
    generalize decide (a ∈ M4.erase c) = bd2 at hc
    have HC8 := Lib.hid hc
    clear hc hS hK R8 HC7 hleft
    go_wp2_with fail
    refine HC8.out.mono ?_
    rintro e wd2 ⟨rfl, hS, hK⟩
    have RD2 := Lib.hid (RD1.out.keep hK)
    have HL := Lib.hid hS.len
    have HA := Lib.hid (hS.all (by omega))
    clear hS hK RD1 HC8
    go_wp2_with fail
    refine HL.out.mono ?_
    rintro e wd3 ⟨rfl, rfl⟩
    clear HL
    go_wp2_with fail
    refine HA.out.mono ?_
    rintro e wd4 ⟨A9, c9, L, rfl, _, hp, _, hS, hK⟩
    obtain rfl : L = [] := List.Perm.eq_nil hp
    have RD4 := Lib.hid (RD2.out.keep hK)
    have hc := hS.drop (c := c1) (W1.out.below hS.below) (by omega)
    rw [decide_eq_false (show ¬ a ∈ ([] : List (List Int)) by simp)] at hc
    have HC9 := Lib.hid hc
    clear hc hS hK RD2 HA hp
    go_wp2_with fail
    refine HC9.out.mono ?_
    rintro e wd5 ⟨rfl, hS, hK⟩
    have RD5 := Lib.hid (RD4.out.keep hK)
    have hc := hS.ends (c := c4) (tz := ab.length) (RD5.out.at hZ4.out (by have := LAB.out; omega)) (Nat.le_refl _) (by have := LAB.out; omega)
    rw [List.erase_nil, endsM_nil] at hc
    have HC10 := Lib.hid hc
    clear hc hS hK RD4 HC9
    go_wp2_with fail
    refine HC10.out.mono ?_
    rintro e wd6 ⟨A10, c10, rfl, _, hS, hK⟩
    have HB := Lib.hid hS.below
    clear hS hK HC10
    go_wp2
    go_ret
    exact ⟨rfl, HB.out⟩
  · rw [decide_eq_false hc0, Bool.not_false, Bool.true_and] at hc
    have p3 : 0 < c.length := by cases c with | nil => exact absurd rfl hc0 | cons _ _ => simp
    have b3 : (0 : Int) < (c.length : Int) := by omega
    have HSame := Lib.hid hsame
    generalize decide (a = c) = bb at hc HSame
    have HC6 := Lib.hid hc
    clear hc hS HC5 hsame hc0
    go_wp2_with fail
    refine HC6.out.mono ?_
    rintro e w8 ⟨rfl, hS, hK⟩
    have R8 := Lib.hid (R7.out.keep hK)
    clear hK R7
    have hcc := hornbooklaw16_same.calls kk A1 c1 a A3 c3 c bb w8 (Kd.C_below H1.out hS.below) k1 (Kd.C_below H3.out hS.below) k3 HSame.out
    have HCC := Lib.hid hcc
    have S8 := Lib.hid hS
    clear hcc hS HC6
    go_wp2_with fail
    refine HCC.out.mono ?_
    rintro e w9 ⟨rfl, hdr⟩
    have hS := S8.out.step hdr.below
    have R9 := Lib.hid (R8.out.keep (.below hdr.below))
    clear hdr S8 HCC R8
    have hc := hS.drop (c := c3) (W3.out.below hS.below) (by omega)
    generalize decide (c ∈ M4) = bd at hc
    have HC7 := Lib.hid hc
    clear hc hS
    go_wp2_with fail
    refine HC7.out.mono ?_
    rintro e wd1 ⟨rfl, hS, hK⟩
    have RD1 := Lib.hid (R9.out.keep hK)
    have hc := hS.drop (c := c1) (W1.out.below hS.below) (by omega)
    rw [hleft.out] at hc
    generalize decide (a ∈ M4.erase c) = bd2 at hc
    have HC8 := Lib.hid hc
    clear hc hS hK R9 HC7 hleft
    go_wp2_with fail
    refine HC8.out.mono ?_
    rintro e wd2 ⟨rfl, hS, hK⟩
    have RD2 := Lib.hid (RD1.out.keep hK)
    have HL := Lib.hid hS.len
    have HA := Lib.hid (hS.all (by omega))
    clear hS hK RD1 HC8
    go_wp2_with fail
    refine HL.out.mono ?_
    rintro e wd3 ⟨rfl, rfl⟩
    clear HL
    go_wp2_with fail
    refine HA.out.mono ?_
    rintro e wd4 ⟨A9, c9, L, rfl, _, hp, _, hS, hK⟩
    obtain rfl : L = [] := List.Perm.eq_nil hp
    have RD4 := Lib.hid (RD2.out.keep hK)
    have hc := hS.drop (c := c1) (W1.out.below hS.below) (by omega)
    rw [decide_eq_false (show ¬ a ∈ ([] : List (List Int)) by simp)] at hc
    have HC9 := Lib.hid hc
    clear hc hS hK RD2 HA hp
    go_wp2_with fail
    refine HC9.out.mono ?_
    rintro e wd5 ⟨rfl, hS, hK⟩
    have RD5 := Lib.hid (RD4.out.keep hK)
    have hc := hS.ends (c := c4) (tz := ab.length) (RD5.out.at hZ4.out (by have := LAB.out; omega)) (Nat.le_refl _) (by have := LAB.out; omega)
    rw [List.erase_nil, endsM_nil] at hc
    have HC10 := Lib.hid hc
    clear hc hS hK RD4 HC9
    go_wp2_with fail
    refine HC10.out.mono ?_
    rintro e wd6 ⟨A10, c10, rfl, _, hS, hK⟩
    have HB := Lib.hid hS.below
    clear hS hK HC10
    go_wp2
    go_ret
    exact ⟨rfl, HB.out⟩
set_option maxRecDepth 100000 in
set_option maxHeartbeats 2000000 in
theorem goes_other (A1 A2 A3 : Option Addr) (c1 c2 c3 n1 n2 n3 : Nat) (w : World) (h : 20 < n1 ∨ 20 < n2 ∨ 20 < n3 ∨ n1 = 0 ∨ n2 = 0) :
    Calls Try.prog 11 #[.slice A1 n1 c1, .slice A2 n2 c2, .slice A3 n3 c3] w fun e w' => e = .returned (.bool true) ∧ Below w.heap.size w w' := by
  have HK := Lib.hid (trie_known w)
  by_cases k0 : 20 < n1
  · have p0 : decide ((20 : Int) < (n1 : Int)) = true := decide_eq_true (by omega)
    have q0 : decide (20 < n1) = true := decide_eq_true (by omega)
    clear h k0
    go_enter Try.func11, Try.ntmps11
    go_wp2_with (refine HK.out.mono ?_; rintro e w1 ⟨rfl, hb⟩; have HB := Lib.hid hb; clear hb)
    go_ret
    exact ⟨rfl, HB.out⟩
  by_cases k1 : 20 < n2
  · have p0 : decide ((20 : Int) < (n1 : Int)) = false := decide_eq_false (by omega)
    have q0 : decide (20 < n1) = false := decide_eq_false (by omega)
    have p1 : decide ((20 : Int) < (n2 : Int)) = true := decide_eq_true (by omega)
    have q1 : decide (20 < n2) = true := decide_eq_true (by omega)
    clear h k0 k1
    go_enter Try.func11, Try.ntmps11
    go_wp2_with (refine HK.out.mono ?_; rintro e w1 ⟨rfl, hb⟩; have HB := Lib.hid hb; clear hb)
    go_ret
    exact ⟨rfl, HB.out⟩
  by_cases k2 : 20 < n3
  · have p0 : decide ((20 : Int) < (n1 : Int)) = false := decide_eq_false (by omega)
    have q0 : decide (20 < n1) = false := decide_eq_false (by omega)
    have p1 : decide ((20 : Int) < (n2 : Int)) = false := decide_eq_false (by omega)
    have q1 : decide (20 < n2) = false := decide_eq_false (by omega)
    have p2 : decide ((20 : Int) < (n3 : Int)) = true := decide_eq_true (by omega)
    have q2 : decide (20 < n3) = true := decide_eq_true (by omega)
    clear h k0 k1 k2
    go_enter Try.func11, Try.ntmps11
    go_wp2_with (refine HK.out.mono ?_; rintro e w1 ⟨rfl, hb⟩; have HB := Lib.hid hb; clear hb)
    go_ret
    exact ⟨rfl, HB.out⟩
  by_cases k3 : n1 = 0
  · have p0 : decide ((20 : Int) < (n1 : Int)) = false := decide_eq_false (by omega)
    have q0 : decide (20 < n1) = false := decide_eq_false (by omega)
    have p1 : decide ((20 : Int) < (n2 : Int)) = false := decide_eq_false (by omega)
    have q1 : decide (20 < n2) = false := decide_eq_false (by omega)
    have p2 : decide ((20 : Int) < (n3 : Int)) = false := decide_eq_false (by omega)
    have q2 : decide (20 < n3) = false := decide_eq_false (by omega)
    have p3 : ((n1 : Int) == 0) = true := by simp; omega
    have q3 : decide (n1 = 0) = true := decide_eq_true (by omega)
    clear h k0 k1 k2 k3
    go_enter Try.func11, Try.ntmps11
    go_wp2_with (refine HK.out.mono ?_; rintro e w1 ⟨rfl, hb⟩; have HB := Lib.hid hb; clear hb)
    go_ret
    exact ⟨rfl, HB.out⟩
  have p0 : decide ((20 : Int) < (n1 : Int)) = false := decide_eq_false (by omega)
  have q0 : decide (20 < n1) = false := decide_eq_false (by omega)
  have p1 : decide ((20 : Int) < (n2 : Int)) = false := decide_eq_false (by omega)
  have q1 : decide (20 < n2) = false := decide_eq_false (by omega)
  have p2 : decide ((20 : Int) < (n3 : Int)) = false := decide_eq_false (by omega)
  have q2 : decide (20 < n3) = false := decide_eq_false (by omega)
  have p3 : ((n1 : Int) == 0) = false := by simp; omega
  have q3 : decide (n1 = 0) = false := decide_eq_false (by omega)
  have p4 : ((n2 : Int) == 0) = true := by simp; omega
  have q4 : decide (n2 = 0) = true := decide_eq_true (by omega)
  clear h k0 k1 k2 k3
  go_enter Try.func11, Try.ntmps11
  go_wp2_with (refine HK.out.mono ?_; rintro e w1 ⟨rfl, hb⟩; have HB := Lib.hid hb; clear hb)
  go_ret
  exact ⟨rfl, HB.out⟩
end Go.Proofs.Yteaadpgammbdgaa.PA
