/- hornbooklaw4.known: by hand: it answers true. -/
import Derived.Test.YtnfnnmmblommiaaCFacts
namespace Go.Proofs.Ytnfnnmmblommiaa.PA
open Go.RowKit Go.Shelf Go.Proofs.YtnfnnmmblommiaaW.PrintWords Go.Proofs.YtnfnnmmblommiaaW.PrintLast Go.Proofs.YtnfnnmmblommiaaW.PrintMore
set_option linter.unusedVariables false
set_option linter.unusedSimpArgs false

theorem row_one {α : Type} {d : Kd α} {w : World} {x : α} {cs : Array Value} {e : TypeId} (h : d.K (w.alloc (.cells cs e)) x cs.toList) (hs : cs.size = d.sz) : d.C (w.alloc (.cells cs e)) (some ⟨w.heap.size, 0, none⟩) 1 [x] := by
  refine ⟨rfl, by omega, fun _ => ⟨_, rfl, fun j p hp => ?_⟩⟩
  rcases j with _ | j
  · cases hp
    refine ⟨cs.toList, by simpa using hs, h, fun i u hi => ?_⟩
    rw [Nat.zero_mul, Nat.zero_add, add_plain]
    exact cell_new i (by simpa using hi)
  · simp at hp
theorem one_set (w : World) (a b : Int) : Kd.C (Kd.slice 41 k41) ((w.alloc (.cells #[.int .i32 a, .int .i32 b] 41)).alloc (.cells #[.slice (some ⟨w.heap.size, 0, none⟩) 1 1] 26)) (some ⟨w.heap.size + 1, 0, none⟩) 1 [[⟨a, b⟩]] := by
  have h1 : Kd.C k41 (w.alloc (.cells #[.int .i32 a, .int .i32 b] 41)) (some ⟨w.heap.size, 0, none⟩) 1 [(⟨a, b⟩ : Rg)] := row_one (k41_mk _ _) rfl
  have h2 := row_one (d := Kd.slice 41 k41) (w := w.alloc (.cells #[.int .i32 a, .int .i32 b] 41)) (x := [(⟨a, b⟩ : Rg)]) (cs := #[.slice (some ⟨w.heap.size, 0, none⟩) 1 1]) (e := 26) ⟨_, 1, rfl, Nat.le_refl _, Kd.C_alloc h1 _⟩ rfl
  rw [World.size_alloc] at h2
  exact h2
abbrev KS : List (List Rg) := [[⟨97, 122⟩]]
theorem ks_los {los : List Int} (h : LosOf los (ss KS)) : los = [0, 97, 123] := by
  have hn : norm ([(⟨97, 122⟩ : Rg)] ++ []) = [⟨97, 122⟩] := norm_norm (by unfold IsC IsF; exact ⟨by decide, by decide, by decide, trivial⟩)
  refine los_unique h.lt (by simp) fun x => ?_
  rw [h.mem]
  show x ∈ (0 :: [[(⟨97, 122⟩ : Rg)]].flatMap endsOf) ↔ _
  simp only [List.flatMap_cons, List.flatMap_nil, List.append_nil]
  unfold endsOf
  rw [hn]
  simp [pts]
theorem ks_cut : cutOf KS [0, 97, 123] = ([⟨0, 0⟩, ⟨97, 1⟩, ⟨123, 0⟩], [0, 1]) := rfl
theorem nil_los {los : List Int} (h : LosOf los (ss [])) : los = [0] := by
  refine los_unique h.lt (by simp) fun x => ?_
  rw [h.mem]
  simp [ss, endsL]
theorem nil_cut : cutOf [] [0] = ([⟨0, 0⟩], [0]) := rfl
/-- What Of tells, by the facts of a cut. -/
def clsOf (S : List (List Rg)) (ms : List Int) (r : Int) : Int := if r < 0 ∨ r > 1114111 then -1 else (idxL ms (maskI S r) : Int)
theorem of_fact {S : List (List Rg)} {W : World} {g : Nat} {n : Int} {ps : List Pc} {ms : List Int} (h : ClsAt W g n ps ms) (F : Facts S ps ms) (hl : ps.length < 1000000000) (r : Int) (h3 : -2147483648 ≤ r) (h4 : r ≤ 2147483647) :
    Calls Try.prog 25 #[.pointer (some ⟨g, 0, none⟩), .int .i32 r] W fun e w' => e = .returned (.int .i64 (clsOf S ms r)) ∧ Below W.heap.size W w' := by
  refine (of_calls h r h3 h4 F.inc hl F.bound F.pos F.head).mono ?_
  rintro e w' ⟨v, rfl, h1, h2, hb⟩
  refine ⟨?_, hb⟩
  unfold clsOf
  by_cases hr : r < 0 ∨ r > 1114111
  · rw [if_pos hr, h1 hr]
  · rw [if_neg hr]
    obtain ⟨q, hq, e⟩ := h2 (by omega) (by omega)
    rw [e, (F.cls r q (by omega) (by omega) hq).1]
set_option maxRecDepth 100000 in
set_option maxHeartbeats 8000000 in
theorem known_calls (w : World) : Calls Try.prog 23 #[] w fun e w' => e = .returned (.bool true) ∧ Below w.heap.size w w' := by
  have hu := Try.underlying41
  obtain ⟨w1, hw1⟩ : ∃ w1, (w.alloc (.cells #[.int .i32 97, .int .i32 122] 41)).alloc (.cells #[.slice (some ⟨w.heap.size, 0, none⟩) 1 1] 26) = w1 := ⟨_, rfl⟩
  have hb1 : Below w.heap.size w w1 := by rw [← hw1]; exact ((Below.refl _ w).alloc (Nat.le_refl _) _).alloc (by simp) _
  have hC : Kd.C (Kd.slice 41 k41) w1 (some ⟨w.heap.size + 1, 0, none⟩) 1 KS := by rw [← hw1]; exact one_set w 97 122
  have HC1 := Lib.hid (cut_calls w1 (some ⟨w.heap.size + 1, 0, none⟩) 1 KS (by decide) (Nat.le_refl _) (by intro l hl; simp at hl; subst hl; decide) hC)
  have HB1 := Lib.hid hb1
  clear hC hb1
  go_enter Try.func23, Try.ntmps23
  go_wp2_with fail
  refine HC1.out.mono ?_
  rintro e w2 ⟨g, los, rfl, hlos, hAt, hb2, _⟩
  have hF := (cut_facts hlos (by decide)).1
  obtain rfl := ks_los hlos
  rw [show ss KS = KS from rfl, ks_cut] at hAt hF
  dsimp only at hAt hF
  have HA := Lib.hid hAt
  have HF := Lib.hid hF
  have HB2 := Lib.hid (HB1.out.trans (hb2.mono HB1.out.size))
  clear hlos hAt hF hb2 HC1 HB1
  have neqp := fun W : World => (show (binOp .neq 42 (.pointer (some ⟨g, 0, none⟩)) (.pointer none)).run Try.prog W = .ok (.bool true) W from by kernel_rfl)
  have L1 := Lib.hid (fun (W : World) (h : ClsAt W g ((KS.length : Nat) : Int) [⟨0, 0⟩, ⟨97, 1⟩, ⟨123, 0⟩] [0, 1]) => (show Calls Try.prog 26 #[.pointer (some ⟨g, 0, none⟩)] W fun e w' => e = .returned (.int .i64 2) ∧ w' = W from len_calls h))
  have L2 := Lib.hid (fun (W : World) (h : ClsAt W g ((KS.length : Nat) : Int) [⟨0, 0⟩, ⟨97, 1⟩, ⟨123, 0⟩] [0, 1]) => (show Calls Try.prog 27 #[.pointer (some ⟨g, 0, none⟩)] W fun e w' => e = .returned (.int .i64 1) ∧ w' = W from sets_calls h))
  have O0 := Lib.hid (fun (W : World) (h : ClsAt W g ((KS.length : Nat) : Int) [⟨0, 0⟩, ⟨97, 1⟩, ⟨123, 0⟩] [0, 1]) => (show Calls Try.prog 25 #[.pointer (some ⟨g, 0, none⟩), .int .i32 0] W fun e w' => e = .returned (.int .i64 0) ∧ Below W.heap.size W w' from of_fact h HF.out (by decide) 0 (by decide) (by decide)))
  have O1 := Lib.hid (fun (W : World) (h : ClsAt W g ((KS.length : Nat) : Int) [⟨0, 0⟩, ⟨97, 1⟩, ⟨123, 0⟩] [0, 1]) => (show Calls Try.prog 25 #[.pointer (some ⟨g, 0, none⟩), .int .i32 98] W fun e w' => e = .returned (.int .i64 1) ∧ Below W.heap.size W w' from of_fact h HF.out (by decide) 98 (by decide) (by decide)))
  have O2 := Lib.hid (fun (W : World) (h : ClsAt W g ((KS.length : Nat) : Int) [⟨0, 0⟩, ⟨97, 1⟩, ⟨123, 0⟩] [0, 1]) => (show Calls Try.prog 25 #[.pointer (some ⟨g, 0, none⟩), .int .i32 (-1)] W fun e w' => e = .returned (.int .i64 (-1)) ∧ Below W.heap.size W w' from of_fact h HF.out (by decide) (-1) (by decide) (by decide)))
  have I1 := Lib.hid (fun (W : World) (h : ClsAt W g ((KS.length : Nat) : Int) [⟨0, 0⟩, ⟨97, 1⟩, ⟨123, 0⟩] [0, 1]) => (show Calls Try.prog 32 #[.pointer (some ⟨g, 0, none⟩), .int .i64 1, .int .i64 0] W fun e w' => e = .returned (.bool true) ∧ w' = W from in_calls h 1 0 (by decide) HF.out.u64 (by decide)))
  have I0 := Lib.hid (fun (W : World) (h : ClsAt W g ((KS.length : Nat) : Int) [⟨0, 0⟩, ⟨97, 1⟩, ⟨123, 0⟩] [0, 1]) => (show Calls Try.prog 32 #[.pointer (some ⟨g, 0, none⟩), .int .i64 0, .int .i64 0] W fun e w' => e = .returned (.bool false) ∧ w' = W from in_calls h 0 0 (by decide) HF.out.u64 (by decide)))
  clear hw1
  go_wp2_with fail
  refine (L1.out _ HA.out).mono ?_
  rintro e w3 ⟨rfl, rfl⟩
  go_wp2_with fail
  refine (O0.out _ HA.out).mono ?_
  rintro e w4 ⟨rfl, hb4⟩
  have HA4 := Lib.hid (HA.out.later hb4)
  have HB4 := Lib.hid (HB2.out.trans (hb4.mono HB2.out.size))
  clear hb4 HA HB2 O0
  go_wp2_with fail
  refine (O1.out _ HA4.out).mono ?_
  rintro e w5 ⟨rfl, hb5⟩
  have HA5 := Lib.hid (HA4.out.later hb5)
  have HB5 := Lib.hid (HB4.out.trans (hb5.mono HB4.out.size))
  clear hb5 HA4 HB4 O1
  go_wp2_with fail
  refine (I1.out _ HA5.out).mono ?_
  rintro e w6 ⟨rfl, rfl⟩
  go_wp2_with fail
  refine (I0.out _ HA5.out).mono ?_
  rintro e w7 ⟨rfl, rfl⟩
  go_wp2_with fail
  refine (L2.out _ HA5.out).mono ?_
  rintro e w8 ⟨rfl, rfl⟩
  go_wp2_with fail
  refine (O2.out _ HA5.out).mono ?_
  rintro e w9 ⟨rfl, hb9⟩
  have HB9 := Lib.hid (HB5.out.trans (hb9.mono HB5.out.size))
  have HC2 := Lib.hid (cut_calls w9 none 0 [] (by decide) (Nat.le_refl _) (by intro l hl; cases hl) (Kd.R_reads' (Kd.R_nil (Kd.slice 41 k41) 26 w9 0 (fun _ => True))).2.2)
  clear hb9 HA5 HB5 O2 I1 I0 L1 L2 neqp HF
  go_wp2_with fail
  refine HC2.out.mono ?_
  rintro e w10 ⟨g2, los, rfl, hlos, hAt, hb10, _⟩
  obtain rfl := nil_los hlos
  rw [show ss ([] : List (List Rg)) = [] from rfl, nil_cut] at hAt
  dsimp only at hAt
  have HB10 := Lib.hid (HB9.out.trans (hb10.mono HB9.out.size))
  have L3 := Lib.hid (show Calls Try.prog 26 #[.pointer (some ⟨g2, 0, none⟩)] w10 fun e w' => e = .returned (.int .i64 1) ∧ w' = w10 from len_calls hAt)
  clear hlos hAt hb10 HB9 HC2
  go_wp2_with fail
  refine L3.out.mono ?_
  rintro e w11 ⟨rfl, rfl⟩
  go_wp2
  go_ret
  exact ⟨rfl, HB10.out⟩
end Go.Proofs.Ytnfnnmmblommiaa.PA
