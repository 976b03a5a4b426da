/- uniset.Union: by hand: the canonical list of both. -/
import Derived.Test.YtnfnnmmblommiaaHSet
import Derived.Test.YtnfnnmmblommiaaPAx6
namespace Go.Proofs.Ytnfnnmmblommiaa.PA
open Go.RowKit Go.Shelf Go.Proofs.YtnfnnmmblommiaaW.PrintWords Go.Proofs.YtnfnnmmblommiaaW.PrintLast Go.Proofs.YtnfnnmmblommiaaW.PrintMore
set_option linter.unusedVariables false
set_option linter.unusedSimpArgs false

theorem concat_two (a b : List Rg) (h : a.length + b.length < 1099511627776) : api_Range_57.f 8 [a, b] = some (a ++ b) := by
  have r0 : rd_L2 [a, b] 0 = a := rfl
  have r1 : rd_L2 [a, b] 1 = b := rfl
  have w1 : wrap64 (0 + (a.length : Int)) = (a.length : Int) := by unfold wrap64; omega
  have w2 : wrap64 ((a.length : Int) + (b.length : Int)) = (a.length : Int) + (b.length : Int) := by unfold wrap64; omega
  have e1 : wrap64 (0 + 1) = 1 := by unfold wrap64; omega
  have e2 : wrap64 (1 + 1) = 2 := by unfold wrap64; omega
  have g : api_Range_66.f ([] : List Rg) ((a.length : Int) + (b.length : Int)) = some [] := by
    unfold api_Range_66.f
    rw [if_pos (by omega), if_pos (by omega)]
  unfold api_Range_57.f
  simp only [api_Range_57.l0, api_Range_57.l1, r0, r1, w1, w2, e1, e2, List.length_cons, List.length_nil]
  rw [if_pos (by decide), if_pos (by decide), if_pos (by decide), if_neg (by omega), if_pos (by decide), if_pos (by decide), if_pos (by decide), if_neg (by omega), if_neg (by decide), g]
  simp only [Option.bind_some]
  rw [if_pos (by decide), if_pos (by decide), if_pos (by decide), if_pos (by simp; omega), if_pos (by decide), if_pos (by decide), if_pos (by decide), if_pos (by simp; omega), if_neg (by decide)]
  simp
theorem two_rows {w : World} {A0 A1 : Option Addr} {c0 c1 : Nat} {a b : List Rg} (h0 : Kd.C k41 w A0 a.length a) (h1 : Kd.C k41 w A1 b.length b) (k0 : a.length ≤ c0) (k1 : b.length ≤ c1) :
    Kd.C (Kd.slice 41 k41) (w.alloc (.cells #[.slice A0 a.length c0, .slice A1 b.length c1] 26)) (some ⟨w.heap.size, 0, none⟩) 2 [a, b] := by
  refine ⟨rfl, by omega, fun _ => ⟨_, rfl, fun j p hp => ?_⟩⟩
  rcases j with _ | _ | j
  · cases hp
    refine ⟨[.slice A0 a.length c0], rfl, ⟨A0, c0, rfl, k0, Kd.C_alloc h0 _⟩, fun i u hi => ?_⟩
    rcases i with _ | i
    · cases hi; exact cell_new 0 rfl
    · simp at hi
  · cases hp
    refine ⟨[.slice A1 b.length c1], rfl, ⟨A1, c1, rfl, k1, Kd.C_alloc h1 _⟩, fun i u hi => ?_⟩
    rcases i with _ | i
    · cases hi; exact cell_new 1 rfl
    · simp at hi
  · simp at hp

def uniset_Union.f (l0 l1 : List S41) : Option (List S41) := if l0.length + l1.length < 1099511627776 then some (norm (l0 ++ l1)) else none
set_option maxHeartbeats 1000000 in
theorem uniset_Union.calls (A0 : Option Addr) (c0 : Nat) (l0 : List S41) (A1 : Option Addr) (c1 : Nat) (l1 : List S41) (r : List S41) (w : World)
    (hr0 : Kd.C k41 w A0 l0.length l0) (hc0 : l0.length ≤ c0) (hr1 : Kd.C k41 w A1 l1.length l1) (hc1 : l1.length ≤ c1) (h : uniset_Union.f l0 l1 = some r) :
    Calls Try.prog 33 #[.slice A0 l0.length c0, .slice A1 l1.length c1] w fun e w' => ∃ v0_ : Value, e = .returned (v0_) ∧ Kd.R k41 41 w' w.heap.size (fun _ => True) v0_ r ∧ Below w.heap.size w w' := by
  unfold uniset_Union.f at h
  split at h
  · rename_i hlt
    obtain rfl := Option.some.inj h
    have hcc := api_Range_57.calls 8 (some ⟨w.heap.size, 0, none⟩) 2 [l0, l1] (l0 ++ l1) _ (two_rows hr0 hr1 hc0 hc1) (Nat.le_refl _) (concat_two l0 l1 hlt)
    have hset := fun A c W hr hc => uniset_set.calls A c (l0 ++ l1) (norm (l0 ++ l1)) W hr hc (by unfold uniset_set.f; rw [if_pos (by simpa using hlt)])
    clear hr0 hr1 hc0 hc1 h hlt
    generalize l0 ++ l1 = l2 at hcc hset ⊢
    go_enter Try.func33, Try.ntmps33
    go_wp2_with (first | (go_at_call 57; refine hcc.mono ?_; rintro e w1 ⟨v, rfl, hR, hb⟩; obtain ⟨A, c, rfl, hlc, hC⟩ := Kd.R_reads hR; have H1 := Lib.hid (below_a hb); have H2 := Lib.hid hC; have H3 := Lib.hid hlc; clear hR hb hC hlc) | (go_at_call 48; refine (hset _ _ _ H2.out H3.out).mono ?_; rintro e w2 ⟨v, rfl, hR, hB⟩; obtain ⟨A, c, rfl⟩ := Kd.R_slice hR; have H4 := Lib.hid hB; have H5 := Lib.hid hR; clear hR hB))
    go_ret
    exact ⟨_, rfl, Kd.R_lower H5.out H1.out.size, below_t H1.out H4.out⟩
  · cases h
end Go.Proofs.Ytnfnnmmblommiaa.PA
