/- props.Set: by hand: a name's set, or that there is none. -/
import Derived.Test.YtnfnnmmblommiaaNamed
import Derived.Test.YtnfnnmmblommiaaHUnion
namespace Go.Proofs.Ytnfnnmmblommiaa.PA
open Go.RowKit Go.Shelf Go.Proofs.YtnfnnmmblommiaaW.PrintWords Go.Proofs.YtnfnnmmblommiaaW.PrintLast Go.Proofs.YtnfnnmmblommiaaW.PrintMore
set_option linter.unusedVariables false
set_option linter.unusedSimpArgs false

theorem norm_len (l : List Rg) (h : l.length < 1000) : (norm l).length < 1000 := Nat.lt_of_le_of_lt (norm_length l) h
theorem namedL_few (a : List UInt8) : (namedL a).length < 1000 := by
  have h0 : (norm (norm (upperL ++ lowerL) ++ moreL)).length < 1000 := by decide
  unfold namedL
  split
  · decide
  split
  · decide
  split
  · decide
  split
  · decide
  split
  · exact h0
  split
  · decide
  split
  · decide
  split
  · decide
  split
  · decide
  split
  · decide
  split <;> decide
def props_Set.f (a0 : ByteArray) : Option (List S41 × Int) := some (if namedL a0.toList = [] then ([], 50) else (norm (namedL a0.toList), 0))
set_option maxRecDepth 100000 in
set_option maxHeartbeats 1000000 in
theorem props_Set.calls (a0 : ByteArray) (r1 : List S41) (r2 : Int) (w : World) (h : props_Set.f a0 = some (r1, r2)) :
    Calls Try.prog 14 #[.string a0] w fun e w' => ∃ v0_ : Value, e = .returned (.tuple #[v0_, .int .i64 r2]) ∧ Kd.R k41 41 w' w.heap.size (fun _ => True) v0_ r1 ∧ Below w.heap.size w w' := by
  have h := Option.some.inj h
  by_cases hn : namedL a0.toList = []
  · rw [if_pos hn] at h
    obtain ⟨rfl, rfl⟩ := Prod.mk.inj h
    have hc := fun W => named_nil a0 W hn
    have he : ∀ w : World, (binOp .eql 26 (.slice none 0 0) (.slice none 0 0)).run Try.prog w = .ok (.bool true) w := fun _ => rfl
    go_enter Try.func14, Try.ntmps14
    go_wp2_with (go_at_call 37; refine (hc _).mono ?_; rintro e w' ⟨rfl, rfl⟩)
    go_ret2
    exact ⟨_, rfl, Kd.R_nil _ _ _ _ _, Below.refl _ _⟩
  · rw [if_neg hn] at h
    obtain ⟨rfl, rfl⟩ := Prod.mk.inj h
    obtain ⟨k, hk⟩ := (named_ev a0).get
    have hf := namedL_few a0.toList
    obtain ⟨l, hl⟩ : ∃ l, namedL a0.toList = l := ⟨_, rfl⟩
    rw [hl] at hk hn hf ⊢
    have hpos : 0 < l.length := by cases l with | nil => exact absurd rfl hn | cons x xs => simp
    have hc := fun W => props_named.calls k a0 l W hk
    have hu := fun W A c (hr : Kd.C k41 W A l.length l) hc0 => uniset_Union.calls A c l none 0 [] (norm l) W hr hc0 (Kd.C_nil _ _) (Nat.le_refl _) (by unfold uniset_Union.f; rw [if_pos (by simp only [List.length_nil]; omega), List.append_nil])
    have he : ∀ (w : World) A n c, (binOp .eql 26 (.slice (some A) n c) (.slice none 0 0)).run Try.prog w = .ok (.bool false) w := fun _ _ _ _ => rfl
    have HC := Lib.hid hc
    have HU := Lib.hid hu
    clear hc hu hk
    go_enter Try.func14, Try.ntmps14
    go_wp2_with (first | (go_at_call 37; refine (HC.out _).mono ?_; rintro e w1 ⟨v, rfl, hR, hB⟩; obtain ⟨A, c, rfl, hlc, hC⟩ := Kd.R_reads hR; obtain ⟨ad, rfl, _⟩ := hC.2.2 hpos; have HK := Lib.hid hC; have HL := Lib.hid hlc; have HB := Lib.hid hB; clear hC hlc hB hR) | (go_at_call 33; refine (HU.out _ _ _ HK.out HL.out).mono ?_; rintro e w2 ⟨v, rfl, hR2, hB2⟩; have H2 := Lib.hid hR2; have H3 := Lib.hid hB2; clear hR2 hB2))
    go_ret2
    exact ⟨_, rfl, Kd.R_lower H2.out HB.out.size, below_t HB.out H3.out⟩
end Go.Proofs.Ytnfnnmmblommiaa.PA
