/- The tied card of MatchWord: for each input that the row speaks of the law's function returns true, and its arguments read as they read before; the conditions are the row's own. Part 6 of 6. -/
import Derived.Test.YtfinjenkgpndlaaGreatDoorJMatchWord5
import Derived.Test.YtfinjenkgpndlaaGreatDoorRows
import Derived.Test.YtfinjenkgpndlaaGreatDoorTie
import Derived.Test.YtfinjenkgpndlaaGreatDoorCards
import Derived.LaidMore
import Derived.Lay
import Derived.SevenTiedAt
import Derived.Stop.Joined
import Derived.WalkKit
import Derived.ProofKit
import Derived.OpenShut
import Derived.ShutString
import Derived.ChangeOld
import Derived.Below
import Derived.SizedLaws
namespace Go.Proofs.YtfinjenkgpndlaaGreatDoor.PA
open Go.RowKit Go.Proofs.YtfinjenkgpndlaaGreatDoorW.PrintWords Go.Proofs.YtfinjenkgpndlaaGreatDoorW.PrintLast Go.Proofs.YtfinjenkgpndlaaGreatDoorW.PrintMore
attribute [local go_sem] max2_int min2_int max_two min_two max_three min_three max_four min_four   -- for this text's walks alone
set_option linter.unusedVariables false
set_option linter.unusedSimpArgs false

mutual
def hornbooklaw8_MatchWord.j0 : Nat → List Int → List Int → Bool → Option (Bool)
 | 0, _, _, _ => none
 | k + 1, x0, x1, x18 => if x18 = true then (some true) else (hornbooklaw8_MatchWord.l0 k x0 x1 0 3 0 ([] : List (S58)) (⟨#[]⟩ : ByteArray) ([] : List (S26)))
def hornbooklaw8_MatchWord.l0 : Nat → List Int → List Int → Int → Int → Int → List (S58) → ByteArray → List (S26) → Option (Bool)
 | 0, _, _, _, _, _, _, _, _ => none
 | k + 1, x0, x1, x6, x215000, x215001, x215002, x215003, x215004 => if x6 < (x0.length : Int) then (if 0 ≤ x6 then (if (rd x0 x6) < 0 then (some true) else (if (rd x0 x6) > 1114111 then (some true) else ((hornbooklaw8_two.f 4 x215000 x215001 x215002 x215003 x215004 1 0 (([(⟨rd x0 x6, rd x0 x6⟩ : S58)] : List (S58))) (⟨#[]⟩ : ByteArray) ([] : List (S26))).bind fun bt222 => (hornbooklaw8_MatchWord.l0 k x0 x1 (wrap64 (x6 + 1)) bt222.1 bt222.2.1 bt222.2.2.1 bt222.2.2.2.1 bt222.2.2.2.2)))) else (none)) else (hornbooklaw8_MatchWord.l1 k x0 x1 ((x0.length : Int) == (x1.length : Int)) 0 x215000 x215001 x215002 x215003 x215004)
def hornbooklaw8_MatchWord.l1 : Nat → List Int → List Int → Bool → Int → Int → Int → List (S58) → ByteArray → List (S26) → Option (Bool)
 | 0, _, _, _, _, _, _, _, _, _ => none
 | k + 1, x0, x1, x7, x8, x215000, x215001, x215002, x215003, x215004 => if x7 = true then (if x8 < (x0.length : Int) then (if 0 ≤ x8 then (if x8 < (x1.length : Int) then (hornbooklaw8_MatchWord.l1 k x0 x1 ((rd x0 x8) == (rd x1 x8)) (wrap64 (x8 + 1)) x215000 x215001 x215002 x215003 x215004) else (none)) else (none)) else ((match_All.f k x215000 x215001 x215002 x215003 x215004 x1).bind fun t233 => (if (t233 == x7) = true then ((match_All.f k x215000 x215001 x215002 x215003 x215004 x0).bind fun t234 => (if t234 = true then ((match_Null.f k x215000 x215001 x215002 x215003 x215004).bind fun t235 => (some (t235 == ((x0.length : Int) == 0)))) else (none))) else (none)))) else ((match_All.f k x215000 x215001 x215002 x215003 x215004 x1).bind fun t236 => (if (t236 == x7) = true then ((match_All.f k x215000 x215001 x215002 x215003 x215004 x0).bind fun t237 => (if t237 = true then ((match_Null.f k x215000 x215001 x215002 x215003 x215004).bind fun t238 => (some (t238 == ((x0.length : Int) == 0)))) else (none))) else (none)))
end
def hornbooklaw8_MatchWord.f (k : Nat) (l0 : List Int) (l1 : List Int) : Option (Bool) := (hornbooklaw8_known.f).bind fun t213 => (if t213 = true then (if (l0.length : Int) > 20 then (hornbooklaw8_MatchWord.j0 k l0 l1 true) else (hornbooklaw8_MatchWord.j0 k l0 l1 (decide ((l1.length : Int) > 20)))) else (none))
theorem hornbooklaw8_MatchWord.mono_l : ∀ k, (∀ y0 y1 y2, LeO (hornbooklaw8_MatchWord.j0 k y0 y1 y2) (hornbooklaw8_MatchWord.j0 (k + 1) y0 y1 y2)) ∧ (∀ y0 y1 y2 y3 y4 y5 y6 y7, LeO (hornbooklaw8_MatchWord.l0 k y0 y1 y2 y3 y4 y5 y6 y7) (hornbooklaw8_MatchWord.l0 (k + 1) y0 y1 y2 y3 y4 y5 y6 y7)) ∧ (∀ y0 y1 y2 y3 y4 y5 y6 y7 y8, LeO (hornbooklaw8_MatchWord.l1 k y0 y1 y2 y3 y4 y5 y6 y7 y8) (hornbooklaw8_MatchWord.l1 (k + 1) y0 y1 y2 y3 y4 y5 y6 y7 y8))
 | 0 => ⟨fun _ _ _ r h => by simp [hornbooklaw8_MatchWord.j0] at h, fun _ _ _ _ _ _ _ _ r h => by simp [hornbooklaw8_MatchWord.l0] at h, fun _ _ _ _ _ _ _ _ _ r h => by simp [hornbooklaw8_MatchWord.l1] at h⟩
 | k + 1 => by
  obtain ⟨ih0, ih1, ih2⟩ := hornbooklaw8_MatchWord.mono_l k
  refine ⟨?_, ?_, ?_⟩
  ·intro y0 y1 y2
   unfold hornbooklaw8_MatchWord.j0
   repeat' first
   | (with_reducible exact ih0 _ _ _)
   | (with_reducible exact ih1 _ _ _ _ _ _ _ _)
   | (with_reducible exact ih2 _ _ _ _ _ _ _ _ _)
   | (with_reducible exact match_All.mono _ _ _ _ _ _ _)
   | (with_reducible exact match_Null.mono _ _ _ _ _ _)
   | (with_reducible exact LeO.refl _)
   | (with_reducible exact LeO.none _)
   | (with_reducible refine LeO.ite ?_ ?_)
   | (with_reducible refine LeO.bind ?_ (fun _ => ?_))
   | exact ih0 _ _ _
   | exact ih1 _ _ _ _ _ _ _ _
   | exact ih2 _ _ _ _ _ _ _ _ _
   | exact match_All.mono _ _ _ _ _ _ _
   | exact match_Null.mono _ _ _ _ _ _
   | exact LeO.none _
   | refine LeO.ite ?_ ?_
   | refine LeO.bind ?_ (fun _ => ?_)
  ·intro y0 y1 y2 y3 y4 y5 y6 y7
   unfold hornbooklaw8_MatchWord.l0
   repeat' first
   | (with_reducible exact ih0 _ _ _)
   | (with_reducible exact ih1 _ _ _ _ _ _ _ _)
   | (with_reducible exact ih2 _ _ _ _ _ _ _ _ _)
   | (with_reducible exact match_All.mono _ _ _ _ _ _ _)
   | (with_reducible exact match_Null.mono _ _ _ _ _ _)
   | (with_reducible exact LeO.refl _)
   | (with_reducible exact LeO.none _)
   | (with_reducible refine LeO.ite ?_ ?_)
   | (with_reducible refine LeO.bind ?_ (fun _ => ?_))
   | exact ih0 _ _ _
   | exact ih1 _ _ _ _ _ _ _ _
   | exact ih2 _ _ _ _ _ _ _ _ _
   | exact match_All.mono _ _ _ _ _ _ _
   | exact match_Null.mono _ _ _ _ _ _
   | exact LeO.none _
   | refine LeO.ite ?_ ?_
   | refine LeO.bind ?_ (fun _ => ?_)
  ·intro y0 y1 y2 y3 y4 y5 y6 y7 y8
   unfold hornbooklaw8_MatchWord.l1
   repeat' first
   | (with_reducible exact ih0 _ _ _)
   | (with_reducible exact ih1 _ _ _ _ _ _ _ _)
   | (with_reducible exact ih2 _ _ _ _ _ _ _ _ _)
   | (with_reducible exact match_All.mono _ _ _ _ _ _ _)
   | (with_reducible exact match_Null.mono _ _ _ _ _ _)
   | (with_reducible exact LeO.refl _)
   | (with_reducible exact LeO.none _)
   | (with_reducible refine LeO.ite ?_ ?_)
   | (with_reducible refine LeO.bind ?_ (fun _ => ?_))
   | exact ih0 _ _ _
   | exact ih1 _ _ _ _ _ _ _ _
   | exact ih2 _ _ _ _ _ _ _ _ _
   | exact match_All.mono _ _ _ _ _ _ _
   | exact match_Null.mono _ _ _ _ _ _
   | exact LeO.none _
   | refine LeO.ite ?_ ?_
   | refine LeO.bind ?_ (fun _ => ?_)
theorem hornbooklaw8_MatchWord.mono : ∀ a0 a1 k, LeO (hornbooklaw8_MatchWord.f k a0 a1) (hornbooklaw8_MatchWord.f (k + 1) a0 a1) := by
 intro a0 a1 k
 obtain ⟨ih0, ih1, ih2⟩ := hornbooklaw8_MatchWord.mono_l k
 unfold hornbooklaw8_MatchWord.f
 repeat' first
   | (with_reducible exact ih0 _ _ _)
   | (with_reducible exact ih1 _ _ _ _ _ _ _ _)
   | (with_reducible exact ih2 _ _ _ _ _ _ _ _ _)
   | (with_reducible exact match_All.mono _ _ _ _ _ _ _)
   | (with_reducible exact match_Null.mono _ _ _ _ _ _)
   | (with_reducible exact LeO.refl _)
   | (with_reducible exact LeO.none _)
   | (with_reducible refine LeO.ite ?_ ?_)
   | (with_reducible refine LeO.bind ?_ (fun _ => ?_))
   | exact ih0 _ _ _
   | exact ih1 _ _ _ _ _ _ _ _
   | exact ih2 _ _ _ _ _ _ _ _ _
   | exact match_All.mono _ _ _ _ _ _ _
   | exact match_Null.mono _ _ _ _ _ _
   | exact LeO.none _
   | refine LeO.ite ?_ ?_
   | refine LeO.bind ?_ (fun _ => ?_)
def hornbooklaw8_MatchWord.T11 : Bool × List (List Nat × List Nat) := (true, [([], []), ([], []), ([], []), ([1, 2], [1, 2]), ([3], [3]), ([], []), ([], []), ([5, 6], [5, 6]), ([7], [7]), ([4, 8], [4, 8]), ([9], [9]), ([10], [10]), ([0, 11], [0, 11]), ([12, 12, 0, 1, 2, 3, 4, 5, 6, 7, 8, 9, 10, 11, 12], [12])])
def hornbooklaw8_MatchWord.B11 : List Nat := [0, 0, 0, 6, 14, 0, 0, 96, 224, 510, 1022, 2046, 4095, 8191]
theorem hornbooklaw8_MatchWord.tab11 : rtab .any (opsOf Tryz.f9 11) = hornbooklaw8_MatchWord.T11 := by kernel_rfl
theorem hornbooklaw8_MatchWord.bits11 : waitsOk hornbooklaw8_MatchWord.T11.2 hornbooklaw8_MatchWord.B11 = true := by kernel_rfl
def hornbooklaw8_MatchWord.T16 : Bool × List (List Nat × List Nat) := (true, [([], []), ([], []), ([0, 1], [0, 1]), ([2], [2]), ([], []), ([], []), ([4, 5], [4, 5]), ([6], [6]), ([3, 7], [3, 7]), ([8, 0, 1, 2, 3, 4, 5, 6, 7, 8], [8])])
def hornbooklaw8_MatchWord.B16 : List Nat := [0, 0, 3, 7, 0, 0, 48, 112, 255, 511]
theorem hornbooklaw8_MatchWord.tab16 : rtab .any (opsOf Tryz.f9 16) = hornbooklaw8_MatchWord.T16 := by kernel_rfl
theorem hornbooklaw8_MatchWord.bits16 : waitsOk hornbooklaw8_MatchWord.T16.2 hornbooklaw8_MatchWord.B16 = true := by kernel_rfl
set_option maxHeartbeats 8000000 in
set_option maxRecDepth 100000 in
theorem hornbooklaw8_MatchWord.calls (k : Nat) (A0 : Option Addr) (c0 : Nat) (l0 : List Int) (A1 : Option Addr) (c1 : Nat) (l1 : List Int) (r : Bool) (w : World) (hr0 : Kd.C (Kd.int .i32) w A0 l0.length l0) (hc0 : l0.length ≤ c0) (hr1 : Kd.C (Kd.int .i32) w A1 l1.length l1) (hc1 : l1.length ≤ c1) (h : hornbooklaw8_MatchWord.f k l0 l1 = some r) :
  Calls Tryz.prog 9 #[.slice A0 l0.length c0, .slice A1 l1.length c1] w fun e w' => e = .returned (.bool r) ∧ Below w.heap.size w w' := by
 have hu26 := Tryz.underlying26
 have hu58 := Tryz.underlying58
 have HR0 := Aside0.mk hr0
 have HC0 := Aside0.mk hc0
 clear hr0 hc0
 have HR1 := Aside0.mk hr1
 have HC1 := Aside0.mk hc1
 clear hr1 hc1
 have HB := Aside0.mk (Below.refl w.heap.size w)
 have H : ((hornbooklaw8_known.f).bind fun t213 => (if t213 = true then (if (l0.length : Int) > 20 then (hornbooklaw8_MatchWord.j0 k l0 l1 true) else (hornbooklaw8_MatchWord.j0 k l0 l1 (decide ((l1.length : Int) > 20)))) else (none))) = some r := h
 clear h
 replace H := Option.bind_eq_some_iff.mp H
 obtain ⟨t213, A30, H⟩ := H
 replace H : (if t213 = true then (if (l0.length : Int) > 20 then (hornbooklaw8_MatchWord.j0 k l0 l1 true) else (hornbooklaw8_MatchWord.j0 k l0 l1 (decide ((l1.length : Int) > 20)))) else (none)) = some r := H
 have A3 := Aside0.mk A30
 clear A30
 by_cases c4 : t213 = true
 ·subst c4
  have H1 : (if (l0.length : Int) > 20 then (hornbooklaw8_MatchWord.j0 k l0 l1 true) else (hornbooklaw8_MatchWord.j0 k l0 l1 (decide ((l1.length : Int) > 20)))) = some r := by rw [if_pos rfl] at H; exact H
  clear H
  have H := H1
  clear H1
  have HC5 := Aside0.mk H
  clear H
  go_enter Tryz.func9, Tryz.ntmps9
  go_upto_region 3 with (first | ((with_reducible refine gate_callee (f := 23) rfl ?_); refine goesL_ (some 9) rfl rfl Tryz.func23 (by kernel_rfl) rfl #[] rfl (by (try simp only [List.map_toArray, List.map_cons, List.map_nil]); first | done | rfl | (simp only [List.length_drop, List.length_take]; rfl)) ?_; (with_reducible refine (hornbooklaw8_known.calls  true _ A3.out).mono ?_); rintro e w6 ⟨rfl, hb⟩; refine ⟨_, rfl, ?_⟩; have n0_ := Aside0.mk (below_step (by repeat (first | (with_reducible first | exact HB.out | apply below_alloc | apply pw_below_drewN | apply below_drew1) | exact HB.out)) hb); clear HB; have HB := n0_; clear n0_; (try clear hb); (try clear hb2); (try clear hk); (try clear hi)))
  (try simp only [Act.put, List.setIfInBounds_toArray, List.set_cons_zero, List.set_cons_succ])
  go_cut [18] (fun v18 wc => ∃ (kq : Nat) (x18_4 : Bool), v18 = .bool x18_4 ∧ Aside0 (hornbooklaw8_MatchWord.j0 kq l0 l1 x18_4 = some r) ∧ Aside0 (kq ≤ k) ∧ Aside0 (Below w.heap.size w wc))
  case first =>
   have H := HC5.out
   clear HC5
   by_cases c7 : (l0.length : Int) > 20
   ·rw [if_pos c7] at H
    have c7b0 : decide (20 < (l0.length : Int)) = true := decide_eq_true c7
    have c7b1 : decide (20 < l0.length) = true := decide_eq_true (by omega)
    clear c7
    (first | rw [c7b0] | (simp only [i64_w, i32_w]; rw [c7b0]) | skip)
    have H' := Aside0.mk H
    clear H
    go_wp2
    go_meet
    case rel => exact ⟨_, (true), (by first | rfl | (simp; done) | (simp [*]; done)), H', ⟨by first | omega | exact Nat.le_refl _⟩, ⟨by repeat (first | (with_reducible first | exact HB.out | apply below_alloc | apply pw_below_drewN | apply below_drew1) | exact HB.out)⟩⟩
   ·rw [if_neg c7] at H
    have c7b0 : decide (20 < (l0.length : Int)) = false := decide_eq_false c7
    have c7b1 : decide (20 < l0.length) = false := decide_eq_false (by omega)
    clear c7
    (first | rw [c7b0] | (simp only [i64_w, i32_w]; rw [c7b0]) | skip)
    have H' := Aside0.mk H
    clear H
    go_wp2
    go_meet
    case rel => exact ⟨_, (decide ((l1.length : Int) > 20)), (by first | rfl | (simp; done) | (simp [*]; done)), H', ⟨by first | omega | exact Nat.le_refl _⟩, ⟨by repeat (first | (with_reducible first | exact HB.out | apply below_alloc | apply pw_below_drewN | apply below_drew1) | exact HB.out)⟩⟩
  case rest =>
   clear HC5
   try clear c1
   try clear c2
   try clear p2
   try clear c4
   try clear c7
   try clear c7b0
   try clear c7b1
   obtain ⟨kq, x18_4, rfl, HA, HJ4, HB⟩ := hcut
   cases kq with
   | zero => exact absurd HA.out (by simp [hornbooklaw8_MatchWord.j0])
   | succ kj4 =>
    have H := HA.out
    clear HA
    simp only [hornbooklaw8_MatchWord.j0] at H
    by_cases c8 : x18_4 = true
    ·subst c8
     have H1 : (some true) = some r := by rw [if_pos rfl] at H; exact H
     clear H
     have H := H1
     clear H1
     obtain rfl := Option.some.inj H
     go_wp2
     go_ret
     exact ⟨by first | rfl | (simp [errW_none, errW_some] <;> rfl) | (simp [*, errW_none, errW_some] <;> rfl), by repeat (first | (with_reducible first | exact HB.out | apply below_alloc | apply pw_below_drewN | apply below_drew1) | exact HB.out)⟩
    ·replace c8 := Bool.eq_false_iff.mpr c8
     subst c8
     have H1 : (hornbooklaw8_MatchWord.l0 kj4 l0 l1 0 3 0 ([] : List (S58)) (⟨#[]⟩ : ByteArray) ([] : List (S26))) = some r := by rw [if_neg (show ¬ (false = true) by decide)] at H; exact H
     clear H
     have H := H1
     clear H1
     have H' := Aside0.mk H
     clear H
     go_wp2_with (first | ((with_reducible refine gate_dst (N := 5) rfl ?_); (try (refine gate_guard (by rfl) ?_; dsimp only)); refine box_event ?hg (N := 5) ?hd (cs := #[.int .i64 0, .int .i64 0, .slice none 0 0, .string (⟨#[]⟩ : ByteArray), .slice none 0 0]) (t := 26) ?hr ?_; (case hd => rfl); (case hg => rfl); (case hr => first | (go_simp; done) | (go_simp; rfl)); intro gb214 hg w9 hbox hb; have n0_ := Aside0.mk (below_step (by repeat (first | (with_reducible first | exact HB.out | apply below_alloc | apply pw_below_drewN | apply below_drew1) | exact HB.out)) hb); have n1_ := Aside0.mk (hbox); have n2_ := Aside0.mk ((by rw [hg]; exact (below_size (by repeat (first | (with_reducible first | exact HB.out | apply below_alloc | apply pw_below_drewN | apply below_drew1) | exact HB.out))) : w.heap.size ≤ gb214)); have n3_ := Aside0.mk ((by rw [hg]; exact (below_size (by repeat (first | (with_reducible first | exact HB.out | apply below_alloc | apply pw_below_drewN | apply below_drew1) | exact HB.out))) : w.heap.size ≤ gb214)); clear HB; have HB := n0_; have BK214 := n1_; have GW214 := n2_; have GE214 := n3_; clear n0_ n1_ n2_ n3_; clear hb hbox hg; have hcz10_0 : w9.cell? ⟨gb214, 0, none⟩ = some (.int .i64 0) := (blk_cell BK214.out 0).trans rfl; have hcz10_1 : w9.cell? ⟨gb214, 1, none⟩ = some (.int .i64 0) := (blk_cell BK214.out 1).trans rfl; have hcz10_2 : w9.cell? ⟨gb214, 2, none⟩ = some (.slice none 0 0) := (blk_cell BK214.out 2).trans rfl; have hcz10_3 : w9.cell? ⟨gb214, 3, none⟩ = some (.string (⟨#[]⟩ : ByteArray)) := (blk_cell BK214.out 3).trans rfl; have hcz10_4 : w9.cell? ⟨gb214, 4, none⟩ = some (.slice none 0 0) := (blk_cell BK214.out 4).trans rfl; have hfz10_0 := blk_frozen BK214.out 0; have hfz10_1 := blk_frozen BK214.out 1; have hfz10_2 := blk_frozen BK214.out 2; have hfz10_3 := blk_frozen BK214.out 3; have hfz10_4 := blk_frozen BK214.out 4))
     go_loopg [6] kj4 (fun kq v6 w' => ∃ (x6_2 : Int) (x215000_2 : Int) (x215001_2 : Int) (x215002_2 : List (S58)) (x215003_2 : ByteArray) (x215004_2 : List (S26)) (u215002 : Value) (u215004 : Value), v6 = .int .i64 x6_2 ∧ Aside0 (hornbooklaw8_MatchWord.l0 kq l0 l1 x6_2 x215000_2 x215001_2 x215002_2 x215003_2 x215004_2 = some r) ∧ Aside0 (kq ≤ kj4) ∧ Aside0 (Kd.R k58 58 w' w.heap.size (fun _ => True) u215002 x215002_2) ∧ Aside0 (Kd.N k26 26 w' w.heap.size (fun k_ => some k_ ≠ (u215002 : Value).ownBlock ∧ k_ ≠ gb214) u215004 x215004_2) ∧ Aside0 (w'.heap[gb214]? = some (.cells #[.int .i64 x215000_2, .int .i64 x215001_2, u215002, .string x215003_2, u215004] 26 (0, 0))) ∧ Aside0 (Below w.heap.size w w'))
     case atStart => exact ⟨(0), (3), (0), (([] : List (S58))), ((⟨#[]⟩ : ByteArray)), (([] : List (S26))), (.slice none 0 0), (.slice none 0 0), (by first | rfl | (simp; done) | (simp [*]; done)), H', ⟨Nat.le_refl _⟩, ⟨by first | exact Kd.R_nil _ _ _ _ _ | exact Kd.N_nil _ _ _ _ _ | exact Kd.V_nil _ _ _ _ _ | exact Kd.Q_nil _ _ _ _ _ | exact Kd.S_nil _ _ _ _ _⟩, ⟨by first | exact Kd.R_nil _ _ _ _ _ | exact Kd.N_nil _ _ _ _ _ | exact Kd.V_nil _ _ _ _ _ | exact Kd.Q_nil _ _ _ _ _ | exact Kd.S_nil _ _ _ _ _⟩, ⟨by (with_reducible repeat (first | refine blk_drewN ?_ _ | refine blk_drew ?_ | refine blk_alloc ?_ _)); refine blk_put (cs := #[.int .i64 3, .int .i64 0, .slice none 0 0, .string (⟨#[]⟩ : ByteArray), .slice none 0 0]) ?_ 4 _ rfl; (with_reducible repeat (first | refine blk_drewN ?_ _ | refine blk_drew ?_ | refine blk_alloc ?_ _)); refine blk_put (cs := #[.int .i64 3, .int .i64 0, .slice none 0 0, .string (⟨#[]⟩ : ByteArray), .slice none 0 0]) ?_ 3 _ rfl; (with_reducible repeat (first | refine blk_drewN ?_ _ | refine blk_drew ?_ | refine blk_alloc ?_ _)); refine blk_put (cs := #[.int .i64 3, .int .i64 0, .slice none 0 0, .string (⟨#[]⟩ : ByteArray), .slice none 0 0]) ?_ 2 _ rfl; (with_reducible repeat (first | refine blk_drewN ?_ _ | refine blk_drew ?_ | refine blk_alloc ?_ _)); refine blk_put (cs := #[.int .i64 3, .int .i64 0, .slice none 0 0, .string (⟨#[]⟩ : ByteArray), .slice none 0 0]) ?_ 1 _ rfl; (with_reducible repeat (first | refine blk_drewN ?_ _ | refine blk_drew ?_ | refine blk_alloc ?_ _)); refine blk_put (cs := #[.int .i64 0, .int .i64 0, .slice none 0 0, .string (⟨#[]⟩ : ByteArray), .slice none 0 0]) ?_ 0 _ rfl; (with_reducible repeat (first | refine blk_drewN ?_ _ | refine blk_drew ?_ | refine blk_alloc ?_ _)); exact BK214.out⟩, ⟨by repeat (first | (with_reducible first | exact HB.out | apply below_alloc | apply pw_below_drewN | apply below_drew1 | refine below_set ?_ GE214.out) | exact HB.out)⟩⟩
     case round =>
      clear H'
      try clear c1
      try clear c2
      try clear p2
      try clear c4
      try clear c7
      try clear c7b0
      try clear c7b1
      try clear c8
      try clear c9
      try clear hcz10_0
      try clear hcz10_1
      try clear hcz10_2
      try clear hcz10_3
      try clear hcz10_4
      try clear hfz10_0
      try clear hfz10_1
      try clear hfz10_2
      try clear hfz10_3
      try clear hfz10_4
      try clear p2
      obtain ⟨x6_2, x215000_2, x215001_2, x215002_2, x215003_2, x215004_2, u215002, u215004, rfl, HA, HK2, HO_215002, HO_215004, BK214, HB⟩ := hrel
      cases gk with
      | zero => exact absurd HA.out (by simp [hornbooklaw8_MatchWord.l0])
      | succ k2 =>
       have H := HA.out
       clear HA
       simp only [hornbooklaw8_MatchWord.l0] at H
       by_cases c11 : x6_2 < (l0.length : Int)
       ·rw [if_pos c11] at H
        have c11b0 : decide (x6_2 < (l0.length : Int)) = true := decide_eq_true c11
        clear c11
        by_cases c12 : 0 ≤ x6_2
        ·rw [if_pos c12] at H
         have c12b0 : decide (0 ≤ x6_2) = true := decide_eq_true c12
         clear c12
         by_cases c13 : (rd l0 x6_2) < 0
         ·rw [if_pos c13] at H
          have c13b0 : decide ((rd l0 x6_2) < 0) = true := decide_eq_true c13
          clear c13
          obtain rfl := Option.some.inj H
          have p215 : 0 ≤ (x6_2 : Int) := of_decide_eq_true (by first | (with_reducible assumption) | assumption)
          have q215 : x6_2 < (l0.length : Int) := of_decide_eq_true (by first | (with_reducible assumption) | assumption)
          obtain ⟨ad215, e215, hx215_0⟩ := Kd.at_int HR0.out x6_2 p215 q215
          cases e215
          replace hx215_0 := (HB.out.cell (World.block_lt_of_cell? w _ hx215_0)).trans hx215_0
          replace p215 := eq_true p215
          replace q215 := eq_true q215
          go_wp2
          go_ret
          exact ⟨by first | rfl | (simp [errW_none, errW_some] <;> rfl) | (simp [*, errW_none, errW_some] <;> rfl), by repeat (first | (with_reducible first | exact HB.out | apply below_alloc | apply pw_below_drewN | apply below_drew1 | refine below_set ?_ GE214.out) | exact HB.out)⟩
         ·rw [if_neg c13] at H
          have c13b0 : decide ((rd l0 x6_2) < 0) = false := decide_eq_false c13
          clear c13
          by_cases c14 : (rd l0 x6_2) > 1114111
          ·rw [if_pos c14] at H
           have c14b0 : decide (1114111 < (rd l0 x6_2)) = true := decide_eq_true c14
           clear c14
           obtain rfl := Option.some.inj H
           have p215 : 0 ≤ (x6_2 : Int) := of_decide_eq_true (by first | (with_reducible assumption) | assumption)
           have q215 : x6_2 < (l0.length : Int) := of_decide_eq_true (by first | (with_reducible assumption) | assumption)
           obtain ⟨ad215, e215, hx215_0⟩ := Kd.at_int HR0.out x6_2 p215 q215
           cases e215
           replace hx215_0 := (HB.out.cell (World.block_lt_of_cell? w _ hx215_0)).trans hx215_0
           replace p215 := eq_true p215
           replace q215 := eq_true q215
           have p216 : 0 ≤ (x6_2 : Int) := of_decide_eq_true (by first | (with_reducible assumption) | assumption)
           have q216 : x6_2 < (l0.length : Int) := of_decide_eq_true (by first | (with_reducible assumption) | assumption)
           obtain ⟨ad216, e216, hx216_0⟩ := Kd.at_int HR0.out x6_2 p216 q216
           obtain rfl : ad215 = ad216 := (by injection e216)
           replace hx216_0 := (HB.out.cell (World.block_lt_of_cell? w _ hx216_0)).trans hx216_0
           replace p216 := eq_true p216
           replace q216 := eq_true q216
           go_wp2
           go_ret
           exact ⟨by first | rfl | (simp [errW_none, errW_some] <;> rfl) | (simp [*, errW_none, errW_some] <;> rfl), by repeat (first | (with_reducible first | exact HB.out | apply below_alloc | apply pw_below_drewN | apply below_drew1 | refine below_set ?_ GE214.out) | exact HB.out)⟩
          ·rw [if_neg c14] at H
           have c14b0 : decide (1114111 < (rd l0 x6_2)) = false := decide_eq_false c14
           clear c14
           obtain ⟨y219, hy219⟩ : ∃ y_ : List (S58), y_ = (([(⟨rd l0 x6_2, rd l0 x6_2⟩ : S58)] : List (S58))) := ⟨_, rfl⟩
           replace H : ((hornbooklaw8_two.f 4 x215000_2 x215001_2 x215002_2 x215003_2 x215004_2 1 0 y219 (⟨#[]⟩ : ByteArray) ([] : List (S26))).bind fun bt222 => (hornbooklaw8_MatchWord.l0 k2 l0 l1 (wrap64 (x6_2 + 1)) bt222.1 bt222.2.1 bt222.2.2.1 bt222.2.2.2.1 bt222.2.2.2.2)) = some r := by first | (rw [hy219]; with_reducible exact H) | (have H2_ := (Option.bind_some _ _).symm.trans H; rw [hy219]; with_reducible exact H2_) | (have H2_ := (Option.bind_some _ _).symm.trans H; with_reducible exact H2_) | with_reducible exact H | (rw [hy219]; exact H) | exact H
           have Ny219 := Aside0.mk hy219
           clear hy219
           replace H := Option.bind_eq_some_iff.mp H
           obtain ⟨⟨t222, t223, t224, t227, t228⟩, A150, H⟩ := H
           replace H : (hornbooklaw8_MatchWord.l0 k2 l0 l1 (wrap64 (x6_2 + 1)) t222 t223 t224 t227 t228) = some r := H
           have A15 := Aside0.mk A150
           clear A150
           have H' := Aside0.mk H
           clear H
           have p215 : 0 ≤ (x6_2 : Int) := of_decide_eq_true (by first | (with_reducible assumption) | assumption)
           have q215 : x6_2 < (l0.length : Int) := of_decide_eq_true (by first | (with_reducible assumption) | assumption)
           obtain ⟨ad215, e215, hx215_0⟩ := Kd.at_int HR0.out x6_2 p215 q215
           cases e215
           replace hx215_0 := (HB.out.cell (World.block_lt_of_cell? w _ hx215_0)).trans hx215_0
           replace p215 := eq_true p215
           replace q215 := eq_true q215
           have p216 : 0 ≤ (x6_2 : Int) := of_decide_eq_true (by first | (with_reducible assumption) | assumption)
           have q216 : x6_2 < (l0.length : Int) := of_decide_eq_true (by first | (with_reducible assumption) | assumption)
           obtain ⟨ad216, e216, hx216_0⟩ := Kd.at_int HR0.out x6_2 p216 q216
           obtain rfl : ad215 = ad216 := (by injection e216)
           replace hx216_0 := (HB.out.cell (World.block_lt_of_cell? w _ hx216_0)).trans hx216_0
           replace p216 := eq_true p216
           replace q216 := eq_true q216
           try go_wp2
           have n0_ := Aside0.mk (Kd.R_drew HO_215002.out)
           have n1_ := Aside0.mk (Kd.N_drew HO_215004.out)
           have n2_ := Aside0.mk (blk_drew BK214.out)
           have n3_ := Aside0.mk (below_drew1 HB.out)
           clear HO_215002
           clear HO_215004
           clear BK214
           clear HB
           have HO_215002 := n0_
           have HO_215004 := n1_
           have BK214 := n2_
           have HB := n3_
           clear n0_ n1_ n2_ n3_
           have p217 : 0 ≤ (x6_2 : Int) := of_decide_eq_true (by first | (with_reducible assumption) | assumption)
           have q217 : x6_2 < (l0.length : Int) := of_decide_eq_true (by first | (with_reducible assumption) | assumption)
           obtain ⟨ad217, e217, hx217_0⟩ := Kd.at_int HR0.out x6_2 p217 q217
           have hw217_0 := hx217_0
           obtain rfl : ad215 = ad217 := (by injection e217)
           replace hx217_0 := (HB.out.cell (World.block_lt_of_cell? w _ hx217_0)).trans hx217_0
           replace p217 := eq_true p217
           replace q217 := eq_true q217
           have p218 : 0 ≤ (x6_2 : Int) := of_decide_eq_true (by first | (with_reducible assumption) | assumption)
           have q218 : x6_2 < (l0.length : Int) := of_decide_eq_true (by first | (with_reducible assumption) | assumption)
           obtain ⟨ad218, e218, hx218_0⟩ := Kd.at_int HR0.out x6_2 p218 q218
           have hw218_0 := hx218_0
           obtain rfl : ad215 = ad218 := (by injection e218)
           replace hx218_0 := (HB.out.cell (World.block_lt_of_cell? w _ hx218_0)).trans hx218_0
           replace p218 := eq_true p218
           replace q218 := eq_true q218
           refine start_ (n := 14) (S := fun w' => w'.cell? ⟨gb214, 0, none⟩ = some (.int .i64 x215000_2) ∧ w'.cell? ⟨gb214, 1, none⟩ = some (.int .i64 x215001_2) ∧ w'.cell? ⟨gb214, 2, none⟩ = some (u215002) ∧ w'.cell? ⟨gb214, 3, none⟩ = some (.string x215003_2) ∧ w'.cell? ⟨gb214, 4, none⟩ = some (u215004) ∧ w'.cell? (ad215.add (x6_2).toNat) = some (.int .i32 (rd l0 x6_2)) ∧ w'.cell? (ad215.add (x6_2).toNat) = some (.int .i32 (rd l0 x6_2))) (ds := [13]) #[false, false, false, false, false, false, false, false, false, false, false, false, false, false] (by kernel_rfl) rfl rfl ⟨(blk_cell BK214.out 0).trans rfl, (blk_cell BK214.out 1).trans rfl, (blk_cell BK214.out 2).trans rfl, (blk_cell BK214.out 3).trans rfl, (blk_cell BK214.out 4).trans rfl, ((HB.out.cell (World.block_lt_of_cell? w _ hw217_0)).trans hw217_0), ((HB.out.cell (World.block_lt_of_cell? w _ hw218_0)).trans hw218_0)⟩ (fun hHeld => ?_); refine with_tabW hornbooklaw8_MatchWord.tab11 hornbooklaw8_MatchWord.bits11 (fun HT_ HW_ => ?_)
           generalize wr.drew = w16 at HO_215002 HO_215004 BK214 HB hx217_0 hx218_0 hHeld ⊢
           refine pure_ (i := 1) (N := some 39) (v := ?_) (a' := ?_) #[false, true, false, false, false, false, false, false, false, false, false, false, false, false] rfl rfl (any_of HT_.out (by kernel_rfl)) (fun _ _ _ h => h) (Or.inl ⟨by rfl, ?_⟩) ?_ ?_
           rotate_left
           ·intro w'
            go_simp
            with_reducible rfl
           rotate_left
           ·simp only [Act.put, List.setIfInBounds_toArray, List.set_cons_zero, List.set_cons_succ, i64_w, i32_w]
            rfl
           refine pure_ (i := 2) (N := some 40) (v := ?_) (a' := ?_) #[false, true, true, false, false, false, false, false, false, false, false, false, false, false] rfl rfl (any_of HT_.out (by kernel_rfl)) (fun _ _ _ h => h) (Or.inl ⟨by rfl, ?_⟩) ?_ ?_
           rotate_left
           ·intro w'
            go_simp
            with_reducible rfl
           rotate_left
           ·simp only [Act.put, List.setIfInBounds_toArray, List.set_cons_zero, List.set_cons_succ, i64_w, i32_w]
            rfl
           refine pure_ (i := 3) (N := some 41) (v := ?_) (a' := ?_) #[false, true, true, true, false, false, false, false, false, false, false, false, false, false] rfl rfl (any_of HT_.out (by kernel_rfl)) (fun _ _ _ h => h) (Or.inl ⟨by rfl, ?_⟩) ?_ ?_
           rotate_left
           ·intro w'
            go_simp
            with_reducible rfl
           rotate_left
           ·simp only [Act.put, List.setIfInBounds_toArray, List.set_cons_zero, List.set_cons_succ, i64_w, i32_w]
            rfl
           refine pure_ (i := 5) (N := some 43) (v := ?_) (a' := ?_) #[false, true, true, true, false, true, false, false, false, false, false, false, false, false] rfl rfl (any_of HT_.out (by kernel_rfl)) (fun _ _ _ h => h) (Or.inl ⟨by rfl, ?_⟩) ?_ ?_
           rotate_left
           ·intro w'
            go_simp
            with_reducible rfl
           rotate_left
           ·simp only [Act.put, List.setIfInBounds_toArray, List.set_cons_zero, List.set_cons_succ, i64_w, i32_w]
            rfl
           refine pure_ (i := 6) (N := some 44) (v := ?_) (a' := ?_) #[false, true, true, true, false, true, true, false, false, false, false, false, false, false] rfl rfl (any_of HT_.out (by kernel_rfl)) (fun _ _ _ h => h) (Or.inl ⟨by rfl, ?_⟩) ?_ ?_
           rotate_left
           ·intro w'
            go_simp
            with_reducible rfl
           rotate_left
           ·simp only [Act.put, List.setIfInBounds_toArray, List.set_cons_zero, List.set_cons_succ, i64_w, i32_w]
            rfl
           refine pure_ (i := 7) (N := some 45) (v := ?_) (a' := ?_) #[false, true, true, true, false, true, true, true, false, false, false, false, false, false] rfl rfl (any_of HT_.out (by kernel_rfl)) (fun _ _ _ h => h) (Or.inl ⟨by rfl, ?_⟩) ?_ ?_
           rotate_left
           ·intro w'
            go_simp
            with_reducible rfl
           rotate_left
           ·simp only [Act.put, List.setIfInBounds_toArray, List.set_cons_zero, List.set_cons_succ, i64_w, i32_w]
            rfl
           refine take_ (i := 0) (N := some 38) (v := ?_) (a' := ?_) #[true, true, true, true, false, true, true, true, false, false, false, false, false, false] rfl rfl (take_ofW HT_.out HW_.out (by kernel_rfl)) (fun _ _ _ h => h) (Or.inl ⟨by rfl, ?_⟩) hHeld ?_ ?_
           rotate_left
           ·rintro w' ⟨s0, s1, s2, s3, s4, s5, s6⟩
            go_simp
            with_reducible rfl
           rotate_left
           ·simp only [Act.put, List.setIfInBounds_toArray, List.set_cons_zero, List.set_cons_succ, i64_w, i32_w]
            rfl
           refine take_ (i := 4) (N := some 42) (v := ?_) (a' := ?_) #[true, true, true, true, true, true, true, true, false, false, false, false, false, false] rfl rfl (take_ofW HT_.out HW_.out (by kernel_rfl)) (fun _ _ _ h => h) (Or.inl ⟨by rfl, ?_⟩) hHeld ?_ ?_
           rotate_left
           ·rintro w' ⟨s0, s1, s2, s3, s4, s5, s6⟩
            go_simp
            with_reducible rfl
           rotate_left
           ·simp only [Act.put, List.setIfInBounds_toArray, List.set_cons_zero, List.set_cons_succ, i64_w, i32_w]
            rfl
           refine take_ (i := 8) (N := some 46) (v := ?_) (a' := ?_) #[true, true, true, true, true, true, true, true, true, false, false, false, false, false] rfl rfl (take_ofW HT_.out HW_.out (by kernel_rfl)) (fun _ _ _ h => h) (Or.inl ⟨by rfl, ?_⟩) hHeld ?_ ?_
           rotate_left
           ·rintro w' ⟨s0, s1, s2, s3, s4, s5, s6⟩
            go_simp
            with_reducible rfl
           rotate_left
           ·simp only [Act.put, List.setIfInBounds_toArray, List.set_cons_zero, List.set_cons_succ, i64_w, i32_w]
            rfl
           refine pure_ (i := 9) (N := some 47) (v := ?_) (a' := ?_) #[true, true, true, true, true, true, true, true, true, true, false, false, false, false] rfl rfl (any_of HT_.out (by kernel_rfl)) (fun _ _ _ h => h) (Or.inl ⟨by rfl, ?_⟩) ?_ ?_
           rotate_left
           ·intro w'
            go_simp
            with_reducible rfl
           rotate_left
           ·simp only [Act.put, List.setIfInBounds_toArray, List.set_cons_zero, List.set_cons_succ, i64_w, i32_w]
            rfl
           refine one_ (i := 10) (N := some 48) #[true, true, true, true, true, true, true, true, true, true, true, false, false, false] rfl rfl (one_of HT_.out (by kernel_rfl)) (by decide) (fun K hK => ?_)
           refine Kd.R_lit_step k58 _ 58 ?hg (N := 48) ?hd (xs := ([(⟨rd l0 x6_2, rd l0 x6_2⟩ : S58)] : List (S58))) (inner := [.int .i32 (rd l0 x6_2), .int .i32 (rd l0 x6_2)]) (ok := fun _ => True) (okp := fun _ => True) ?hr ?hp (fun _ hk => hk) trivial (Below.refl _ _) (Nat.le_refl _) (by simp) ?_; (case hd => rfl); (case hg => rfl); (case hr => first | (go_simp; done) | (go_simp; rfl)); (case hp => exact (Reps.c2 (show Kd.M k58 _ _ _ (⟨rd l0 x6_2, rd l0 x6_2⟩ : S58) [.int .i32 (rd l0 x6_2), .int .i32 (rd l0 x6_2)] from (k58_mkM _ _ _ (⟨rd l0 x6_2, rd l0 x6_2⟩ : S58) )) (Reps.none _ _)))
           intro v220 w17 ho18 hb hg_ hnew_
           clear hg_ hnew_
           (first | rw [← Ny219.out] at ho18 | (simp only [Int.reduceToNat] at ho18; rw [← Ny219.out] at ho18))
           have n0_ := Aside0.mk (Kd.R_elder' (by (with_reducible repeat (first | apply Kd.R_alloc | apply Kd.R_drewN | apply Kd.R_drew)); exact HO_215002.out) (Kd.R_base ho18) hb)
           have n1_ := Aside0.mk (Kd.N_elder' (by (with_reducible repeat (first | apply Kd.N_alloc | apply Kd.N_drewN | apply Kd.N_drew)); exact HO_215004.out) (Kd.R_base ho18) hb)
           have n2_ := Aside0.mk (Kd.R_lower (Kd.R_new' ho18 (Kd.R_lt (by (with_reducible repeat (first | apply Kd.R_alloc | apply Kd.R_drewN | apply Kd.R_drew)); exact HO_215002.out))) (below_size (by repeat (first | (with_reducible first | exact HB.out | apply below_alloc | apply pw_below_drewN | apply below_drew1 | refine below_set ?_ GE214.out) | exact HB.out))))
           have n3_ := Aside0.mk (blk_below (g := gb214) (o := .cells #[.int .i64 x215000_2, .int .i64 x215001_2, u215002, .string x215003_2, u215004] 26 (0, 0)) (by (with_reducible repeat (first | refine blk_drewN ?_ _ | refine blk_drew ?_ | refine blk_alloc ?_ _)); exact BK214.out) hb)
           have n4_ := Aside0.mk (below_step (by repeat (first | (with_reducible first | exact HB.out | apply below_alloc | apply pw_below_drewN | apply below_drew1 | refine below_set ?_ GE214.out) | exact HB.out)) hb)
           clear HO_215002
           clear HO_215004
           clear BK214
           clear HB
           have HO_215002 := n0_
           have HO_215004 := n1_
           have HO221 := n2_
           have BK214 := n3_
           have HB := n4_
           clear n0_ n1_ n2_ n3_ n4_
           clear hb ho18
           obtain ⟨Ao19, co19, eo19⟩ := Kd.R_slice HO221.out
           (first | subst eo19 | (injection eo19 with f1_ f2_ f3_; have f4_ := f1_.symm; have f5_ := f3_.symm; clear f1_ f2_ f3_; subst f4_; subst f5_))
           obtain ⟨Ao20, co20, eo20⟩ := Kd.R_slice HO_215002.out
           (first | subst eo20 | (injection eo20 with f1_ f2_ f3_; have f4_ := f1_.symm; have f5_ := f3_.symm; clear f1_ f2_ f3_; subst f4_; subst f5_))
           obtain ⟨Ao21, co21, eo21⟩ := Kd.N_slice HO_215004.out
           (first | subst eo21 | (injection eo21 with f1_ f2_ f3_; have f4_ := f1_.symm; have f5_ := f3_.symm; clear f1_ f2_ f3_; subst f4_; subst f5_))
           refine hK.out _ _ ⟨(blk_cell BK214.out 0).trans rfl, (blk_cell BK214.out 1).trans rfl, (blk_cell BK214.out 2).trans rfl, (blk_cell BK214.out 3).trans rfl, (blk_cell BK214.out 4).trans rfl, ((HB.out.cell (World.block_lt_of_cell? w _ hw217_0)).trans hw217_0), ((HB.out.cell (World.block_lt_of_cell? w _ hw218_0)).trans hw218_0)⟩ (fun hHeld => ?_)
           clear hK K
           refine norm_ (a' := ?_) ?_ ?_
           rotate_left
           ·show Act.put _ (some 48) _ = _
            simp only [Act.put, List.setIfInBounds_toArray, List.set_cons_zero, List.set_cons_succ, i64_w, i32_w]
            rfl
           refine pure_ (i := 11) (N := some 49) (v := ?_) (a' := ?_) #[true, true, true, true, true, true, true, true, true, true, true, true, false, false] rfl rfl (any_of HT_.out (by kernel_rfl)) (fun _ _ _ h => h) (Or.inl ⟨by rfl, ?_⟩) ?_ ?_
           rotate_left
           ·intro w'
            go_simp
            with_reducible rfl
           rotate_left
           ·simp only [Act.put, List.setIfInBounds_toArray, List.set_cons_zero, List.set_cons_succ, i64_w, i32_w]
            rfl
           refine one_ (i := 12) (N := some 50) #[true, true, true, true, true, true, true, true, true, true, true, true, true, false] rfl rfl (one_of HT_.out (by kernel_rfl)) (by decide) (fun K hK => ?_)
           refine goes_ Tryz.func32 (by kernel_rfl) rfl #[.int .i64 4, .agg #[.int .i64 x215000_2, .int .i64 x215001_2, .slice Ao20 x215002_2.length co20, .string x215003_2, .slice Ao21 x215004_2.length co21], .agg #[.int .i64 1, .int .i64 0, .slice Ao19 y219.length co19, .string (⟨#[]⟩ : ByteArray), .slice none 0 0]] (by rfl) rfl rfl (by (try simp only [List.map_toArray, List.map_cons, List.map_nil]); first | done | rfl | (simp only [List.length_drop, List.length_take]; rfl)) ?_
           refine (hornbooklaw8_two.calls 4 x215000_2 x215001_2 (fun k_ => some k_ = (.slice Ao20 x215002_2.length co20 : Value).ownBlock) _ _ x215002_2 x215003_2 (fun k_ => ((some k_ ≠ (.slice Ao20 x215002_2.length co20 : Value).ownBlock ∧ k_ ≠ gb214) ∧ some k_ ≠ (.slice Ao19 y219.length co19 : Value).ownBlock)) _ _ x215004_2 1 0 (fun k_ => some k_ = (.slice Ao19 y219.length co19 : Value).ownBlock) _ _ y219 (⟨#[]⟩ : ByteArray) (fun k_ => False) _ _ ([] : List (S26)) t222 t223 t224 t227 t228 _ ?side1 ?side2 ?side3 ?side4 A15.out).mono ?_
           (case side1 => exact Kd.R_V (Kd.R_tight rfl (Kd.R_types (Kd.R_apart' (HO_215002.out) (Kd.N_typed HO_215004.out) (by decide)) BK214.out (by decide))))
           (case side2 => exact Kd.N_V (HO_215004.out))
           (case side3 => exact Kd.R_V (Kd.R_tight rfl (Kd.R_types (Kd.R_apart' (HO221.out) (Kd.N_typed HO_215004.out) (by decide)) BK214.out (by decide))))
           (case side4 => exact Kd.V_nil _ _ _ _ _)
           rintro e w22 ⟨v225, v229, rfl, ho0, ho1, hb⟩
           refine ⟨_, rfl, ?_⟩
           have n0_ := Aside0.mk (Kd.R_elder' (by (with_reducible repeat (first | apply Kd.R_alloc | apply Kd.R_drewN | apply Kd.R_drew)); exact HO_215002.out) (Kd.R_base ho0) hb)
           have n1_ := Aside0.mk (Kd.N_mono (Kd.N_told (Kd.N_told (Kd.N_old (by (with_reducible repeat (first | apply Kd.N_alloc | apply Kd.N_drewN | apply Kd.N_drew)); exact HO_215004.out) hb) (Kd.R_base ho0)) (Kd.N_base ho1)) (fun _ h_ => h_.1))
           have n2_ := Aside0.mk (Kd.R_elder' (by (with_reducible repeat (first | apply Kd.R_alloc | apply Kd.R_drewN | apply Kd.R_drew)); exact HO221.out) (Kd.R_base ho0) hb)
           have n3_ := Aside0.mk (Kd.R_lower (Kd.R_new' (Kd.R_new' (Kd.R_mono (ok' := fun k_ => True) ho0 (fun _ hk_ => trivial)) (Kd.R_lt (by (with_reducible repeat (first | apply Kd.R_alloc | apply Kd.R_drewN | apply Kd.R_drew)); exact HO_215002.out))) (Kd.R_lt (by (with_reducible repeat (first | apply Kd.R_alloc | apply Kd.R_drewN | apply Kd.R_drew)); exact HO221.out))) (below_size (by repeat (first | (with_reducible first | exact HB.out | apply below_alloc | apply pw_below_drewN | apply below_drew1 | refine below_set ?_ GE214.out) | exact HB.out))))
           have n4_ := Aside0.mk (Kd.N_lower (Kd.N_mono (ok' := fun k_ => some k_ ≠ (v225 : Value).ownBlock ∧ k_ ≠ gb214) ho1 (fun k_ hk_ => ⟨hk_.2, Or.elim hk_.1 (fun hs_ => Or.elim hs_ (fun hs_ => ((Kd.R_types (Kd.R_apart' (HO_215002.out) (Kd.N_typed HO_215004.out) (by decide)) BK214.out (by decide)).1 k_ hs_.symm).2) (fun hs_ => Or.elim hs_ (fun hs_ => hs_.1.2) (fun hs_ => Or.elim hs_ (fun hs_ => ((Kd.R_types (Kd.R_apart' (HO221.out) (Kd.N_typed HO_215004.out) (by decide)) BK214.out (by decide)).1 k_ hs_.symm).2) (fun hs_ => (hs_).elim)))) (fun hn_ => (Kd.freshB (g := gb214) (o := .cells #[.int .i64 x215000_2, .int .i64 x215001_2, .slice Ao20 x215002_2.length co20, .string x215003_2, .slice Ao21 x215004_2.length co21] 26 (0, 0)) (by (with_reducible repeat (first | refine blk_drewN ?_ _ | refine blk_drew ?_ | refine blk_alloc ?_ _)); exact BK214.out) k_ hn_))⟩)) (below_size (by repeat (first | (with_reducible first | exact HB.out | apply below_alloc | apply pw_below_drewN | apply below_drew1 | refine below_set ?_ GE214.out) | exact HB.out))))
           have n5_ := Aside0.mk (blk_below (g := gb214) (o := .cells #[.int .i64 x215000_2, .int .i64 x215001_2, .slice Ao20 x215002_2.length co20, .string x215003_2, .slice Ao21 x215004_2.length co21] 26 (0, 0)) (by (with_reducible repeat (first | refine blk_drewN ?_ _ | refine blk_drew ?_ | refine blk_alloc ?_ _)); exact BK214.out) hb)
           have n6_ := Aside0.mk (below_step (by repeat (first | (with_reducible first | exact HB.out | apply below_alloc | apply pw_below_drewN | apply below_drew1 | refine below_set ?_ GE214.out) | exact HB.out)) hb)
           clear HO_215002
           clear HO_215004
           clear HO221
           clear BK214
           clear HB
           have HO_215002 := n0_
           have HO_215004 := n1_
           have HO221 := n2_
           have HO226 := n3_
           have HO230 := n4_
           have BK214 := n5_
           have HB := n6_
           clear n0_ n1_ n2_ n3_ n4_ n5_ n6_
           (try clear hb)
           (try clear hb2)
           (try clear hk)
           (try clear hi)
           (try clear ho0)
           (try clear ho1)
           obtain ⟨Ao25, co25, eo25⟩ := Kd.R_slice HO226.out
           (first | subst eo25 | (injection eo25 with f1_ f2_ f3_; have f4_ := f1_.symm; have f5_ := f3_.symm; clear f1_ f2_ f3_; subst f4_; subst f5_))
           obtain ⟨Ao28, co28, eo28⟩ := Kd.N_slice HO230.out
           (first | subst eo28 | (injection eo28 with f1_ f2_ f3_; have f4_ := f1_.symm; have f5_ := f3_.symm; clear f1_ f2_ f3_; subst f4_; subst f5_))
           refine hK.out _ _ ⟨(blk_cell BK214.out 0).trans rfl, (blk_cell BK214.out 1).trans rfl, (blk_cell BK214.out 2).trans rfl, (blk_cell BK214.out 3).trans rfl, (blk_cell BK214.out 4).trans rfl, ((HB.out.cell (World.block_lt_of_cell? w _ hw217_0)).trans hw217_0), ((HB.out.cell (World.block_lt_of_cell? w _ hw218_0)).trans hw218_0)⟩ (fun hHeld => ?_)
           clear hK K
           refine norm_ (a' := ?_) ?_ ?_
           rotate_left
           ·show Act.put _ (some 50) _ = _
            simp only [Act.put, List.setIfInBounds_toArray, List.set_cons_zero, List.set_cons_succ, i64_w, i32_w]
            rfl
           refine last_ (i := 13) (N := none) #[true, true, true, true, true, true, true, true, true, true, true, true, true, true] rfl rfl (one_of HT_.out (by kernel_rfl)) (by decide) (fun K hK => ?_)
           have hs23 : w22.cell? ⟨gb214, 0, none⟩ = some (.int .i64 x215000_2) := (blk_cell BK214.out 0).trans rfl
           have hfs23 := blk_frozen BK214.out 0
           have hs24 : w22.cell? ⟨gb214, 1, none⟩ = some (.int .i64 x215001_2) := (blk_cell BK214.out 1).trans rfl
           have hfs24 := blk_frozen BK214.out 1
           have hs26 : w22.cell? ⟨gb214, 2, none⟩ = some (.slice Ao20 x215002_2.length co20) := (blk_cell BK214.out 2).trans rfl
           have hfs26 := blk_frozen BK214.out 2
           have hs27 : w22.cell? ⟨gb214, 3, none⟩ = some (.string x215003_2) := (blk_cell BK214.out 3).trans rfl
           have hfs27 := blk_frozen BK214.out 3
           have hs29 : w22.cell? ⟨gb214, 4, none⟩ = some (.slice Ao21 x215004_2.length co21) := (blk_cell BK214.out 4).trans rfl
           have hfs29 := blk_frozen BK214.out 4
           refine skip_ (w1 := ?_) (by rfl) rfl ?_ ?_
           rotate_left
           ·go_simp
            rfl
           refine hK.out _ _ ?_
           clear hK K
           refine done_ (done_of HT_.out (by kernel_rfl)) ?_
           try go_wp2
           go_roundg k2
           case measure => have := HJ4.out; have := HK2.out; omega
           case rel => exact ⟨(wrap64 (x6_2 + 1)), (t222), (t223), (t224), (t227), (t228), (.slice Ao25 t224.length co25), (.slice Ao28 t228.length co28), (by first | rfl | (simp; done) | (simp [*]; done)), H', ⟨by have := HJ4.out; have := HK2.out; omega⟩, ⟨by (with_reducible repeat (first | apply Kd.R_alloc | apply Kd.R_drewN | apply Kd.R_drew)); exact Kd.R_mono (Kd.R_far (p := ⟨gb214, 4, none⟩) (Kd.R_far (p := ⟨gb214, 3, none⟩) (Kd.R_far (p := ⟨gb214, 2, none⟩) (Kd.R_far (p := ⟨gb214, 1, none⟩) (Kd.R_far (p := ⟨gb214, 0, none⟩) (Kd.R_types HO226.out BK214.out (by decide)) (fun _ hk => hk.2) (.int .i64 t222)) (fun _ hk => hk.2) (.int .i64 t223)) (fun _ hk => hk.2) (.slice Ao25 t224.length co25)) (fun _ hk => hk.2) (.string t227)) (fun _ hk => hk.2) (.slice Ao28 t228.length co28)) (fun _ hk => trivial)⟩, ⟨by (with_reducible repeat (first | apply Kd.N_alloc | apply Kd.N_drewN | apply Kd.N_drew)); exact Kd.N_mono (Kd.N_far (p := ⟨gb214, 4, none⟩) (Kd.N_far (p := ⟨gb214, 3, none⟩) (Kd.N_far (p := ⟨gb214, 2, none⟩) (Kd.N_far (p := ⟨gb214, 1, none⟩) (Kd.N_far (p := ⟨gb214, 0, none⟩) (Kd.N_mono HO230.out (fun k_ hk => (⟨hk, hk.2⟩ : _ ∧ k_ ≠ gb214))) (fun _ hk => hk.2) (.int .i64 t222)) (fun _ hk => hk.2) (.int .i64 t223)) (fun _ hk => hk.2) (.slice Ao25 t224.length co25)) (fun _ hk => hk.2) (.string t227)) (fun _ hk => hk.2) (.slice Ao28 t228.length co28)) (fun _ hk => ⟨hk.1.1, hk.1.2⟩)⟩, ⟨by (with_reducible repeat (first | refine blk_drewN ?_ _ | refine blk_drew ?_ | refine blk_alloc ?_ _)); refine blk_put (cs := #[.int .i64 t222, .int .i64 t223, .slice Ao25 t224.length co25, .string t227, .slice Ao21 x215004_2.length co21]) ?_ 4 _ rfl; (with_reducible repeat (first | refine blk_drewN ?_ _ | refine blk_drew ?_ | refine blk_alloc ?_ _)); refine blk_put (cs := #[.int .i64 t222, .int .i64 t223, .slice Ao25 t224.length co25, .string x215003_2, .slice Ao21 x215004_2.length co21]) ?_ 3 _ rfl; (with_reducible repeat (first | refine blk_drewN ?_ _ | refine blk_drew ?_ | refine blk_alloc ?_ _)); refine blk_put (cs := #[.int .i64 t222, .int .i64 t223, .slice Ao20 x215002_2.length co20, .string x215003_2, .slice Ao21 x215004_2.length co21]) ?_ 2 _ rfl; (with_reducible repeat (first | refine blk_drewN ?_ _ | refine blk_drew ?_ | refine blk_alloc ?_ _)); refine blk_put (cs := #[.int .i64 t222, .int .i64 x215001_2, .slice Ao20 x215002_2.length co20, .string x215003_2, .slice Ao21 x215004_2.length co21]) ?_ 1 _ rfl; (with_reducible repeat (first | refine blk_drewN ?_ _ | refine blk_drew ?_ | refine blk_alloc ?_ _)); refine blk_put (cs := #[.int .i64 x215000_2, .int .i64 x215001_2, .slice Ao20 x215002_2.length co20, .string x215003_2, .slice Ao21 x215004_2.length co21]) ?_ 0 _ rfl; (with_reducible repeat (first | refine blk_drewN ?_ _ | refine blk_drew ?_ | refine blk_alloc ?_ _)); exact BK214.out⟩, ⟨by repeat (first | (with_reducible first | exact HB.out | apply below_alloc | apply pw_below_drewN | apply below_drew1 | refine below_set ?_ GE214.out) | exact HB.out)⟩⟩
        ·rw [if_neg c12] at H
         exact absurd H (by simp)
       ·rw [if_neg c11] at H
        have c11b0 : decide (x6_2 < (l0.length : Int)) = false := decide_eq_false c11
        clear c11
        have H' := Aside0.mk H
        clear H
        go_wp2
        go_loopg [7, 8] k2 (fun kq v7 v8 w' => ∃ (x7_3 : Bool) (x8_3 : Int), v7 = .bool x7_3 ∧ v8 = .int .i64 x8_3 ∧ Aside0 (hornbooklaw8_MatchWord.l1 kq l0 l1 x7_3 x8_3 x215000_2 x215001_2 x215002_2 x215003_2 x215004_2 = some r) ∧ Aside0 (kq ≤ k2) ∧ Aside0 (Kd.R k58 58 w' w.heap.size (fun _ => True) u215002 x215002_2) ∧ Aside0 (Kd.N k26 26 w' w.heap.size (fun k_ => some k_ ≠ (u215002 : Value).ownBlock ∧ k_ ≠ gb214) u215004 x215004_2) ∧ Aside0 (w'.heap[gb214]? = some (.cells #[.int .i64 x215000_2, .int .i64 x215001_2, u215002, .string x215003_2, u215004] 26 (0, 0))) ∧ Aside0 (Below w.heap.size w w'))
        case atStart => exact ⟨(((l0.length : Int) == (l1.length : Int))), (0), (by first | rfl | (simp; done) | (simp [*]; done)), (by first | rfl | (simp; done) | (simp [*]; done)), H', ⟨Nat.le_refl _⟩, ⟨by (with_reducible repeat (first | apply Kd.R_alloc | apply Kd.R_drewN | apply Kd.R_drew)); exact HO_215002.out⟩, ⟨by (with_reducible repeat (first | apply Kd.N_alloc | apply Kd.N_drewN | apply Kd.N_drew)); exact HO_215004.out⟩, ⟨by (with_reducible repeat (first | refine blk_drewN ?_ _ | refine blk_drew ?_ | refine blk_alloc ?_ _)); exact BK214.out⟩, ⟨by repeat (first | (with_reducible first | exact HB.out | apply below_alloc | apply pw_below_drewN | apply below_drew1 | refine below_set ?_ GE214.out) | exact HB.out)⟩⟩
        case round =>
         clear H'
         try clear c1
         try clear c2
         try clear p2
         try clear q2
         try clear hx2
         try clear c3
         try clear c4
         try clear p6
         try clear c7
         try clear c7b0
         try clear c7b1
         try clear c8
         try clear c9
         try clear c11
         try clear c11b0
         try clear c12
         try clear c12b0
         try clear c13
         try clear c13b0
         try clear c14
         try clear c14b0
         try clear p21
         try clear q21
         try clear hx21
         try clear c23
         try clear hcz10_0
         try clear hcz10_1
         try clear hcz10_2
         try clear hcz10_3
         try clear hcz10_4
         try clear hfz10_0
         try clear hfz10_1
         try clear hfz10_2
         try clear hfz10_3
         try clear hfz10_4
         try clear hx215_0
         try clear hx216_0
         try clear hx217_0
         try clear hx218_0
         try clear p2
         try clear p215
         try clear p216
         try clear p217
         try clear p218
         try clear q215
         try clear q216
         try clear q217
         try clear q218
         obtain ⟨x7_3, x8_3, rfl, rfl, HA, HK3, HO_215002, HO_215004, BK214, HB⟩ := hrel
         cases gk with
         | zero => exact absurd HA.out (by simp [hornbooklaw8_MatchWord.l1])
         | succ k3 =>
          have H := HA.out
          clear HA
          simp only [hornbooklaw8_MatchWord.l1] at H
          by_cases c30 : x7_3 = true
          ·subst c30
           have H1 : (if x8_3 < (l0.length : Int) then (if 0 ≤ x8_3 then (if x8_3 < (l1.length : Int) then (hornbooklaw8_MatchWord.l1 k3 l0 l1 ((rd l0 x8_3) == (rd l1 x8_3)) (wrap64 (x8_3 + 1)) x215000_2 x215001_2 x215002_2 x215003_2 x215004_2) else (none)) else (none)) else ((match_All.f k3 x215000_2 x215001_2 x215002_2 x215003_2 x215004_2 l1).bind fun t233 => (if (t233 == true) = true then ((match_All.f k3 x215000_2 x215001_2 x215002_2 x215003_2 x215004_2 l0).bind fun t234 => (if t234 = true then ((match_Null.f k3 x215000_2 x215001_2 x215002_2 x215003_2 x215004_2).bind fun t235 => (some (t235 == ((l0.length : Int) == 0)))) else (none))) else (none)))) = some r := by rw [if_pos rfl] at H; exact H
           clear H
           have H := H1
           clear H1
           by_cases c31 : x8_3 < (l0.length : Int)
           ·rw [if_pos c31] at H
            have c31b0 : decide (x8_3 < (l0.length : Int)) = true := decide_eq_true c31
            clear c31
            by_cases c32 : 0 ≤ x8_3
            ·rw [if_pos c32] at H
             have c32b0 : decide (0 ≤ x8_3) = true := decide_eq_true c32
             clear c32
             by_cases c33 : x8_3 < (l1.length : Int)
             ·rw [if_pos c33] at H
              have c33b0 : decide (x8_3 < (l1.length : Int)) = true := decide_eq_true c33
              clear c33
              have H' := Aside0.mk H
              clear H
              try go_wp2
              have n0_ := Aside0.mk (Kd.R_drew HO_215002.out)
              have n1_ := Aside0.mk (Kd.N_drew HO_215004.out)
              have n2_ := Aside0.mk (blk_drew BK214.out)
              have n3_ := Aside0.mk (below_drew1 HB.out)
              clear HO_215002
              clear HO_215004
              clear BK214
              clear HB
              have HO_215002 := n0_
              have HO_215004 := n1_
              have BK214 := n2_
              have HB := n3_
              clear n0_ n1_ n2_ n3_
              have p231 : 0 ≤ (x8_3 : Int) := of_decide_eq_true (by first | (with_reducible assumption) | assumption)
              have q231 : x8_3 < (l0.length : Int) := of_decide_eq_true (by first | (with_reducible assumption) | assumption)
              obtain ⟨ad231, e231, hx231_0⟩ := Kd.at_int HR0.out x8_3 p231 q231
              have hw231_0 := hx231_0
              cases e231
              replace hx231_0 := (HB.out.cell (World.block_lt_of_cell? w _ hx231_0)).trans hx231_0
              replace p231 := eq_true p231
              replace q231 := eq_true q231
              have p232 : 0 ≤ (x8_3 : Int) := of_decide_eq_true (by first | (with_reducible assumption) | assumption)
              have q232 : x8_3 < (l1.length : Int) := of_decide_eq_true (by first | (with_reducible assumption) | assumption)
              obtain ⟨ad232, e232, hx232_0⟩ := Kd.at_int HR1.out x8_3 p232 q232
              have hw232_0 := hx232_0
              cases e232
              replace hx232_0 := (HB.out.cell (World.block_lt_of_cell? w _ hx232_0)).trans hx232_0
              replace p232 := eq_true p232
              replace q232 := eq_true q232
              refine start_ (n := 10) (S := fun w' => w'.cell? (ad231.add (x8_3).toNat) = some (.int .i32 (rd l0 x8_3)) ∧ w'.cell? (ad232.add (x8_3).toNat) = some (.int .i32 (rd l1 x8_3))) (ds := []) #[false, false, false, false, false, false, false, false, false, false] (by kernel_rfl) rfl rfl ⟨((HB.out.cell (World.block_lt_of_cell? w _ hw231_0)).trans hw231_0), ((HB.out.cell (World.block_lt_of_cell? w _ hw232_0)).trans hw232_0)⟩ (fun hHeld => ?_); refine with_tabW hornbooklaw8_MatchWord.tab16 hornbooklaw8_MatchWord.bits16 (fun HT_ HW_ => ?_)
              generalize wr.drew = w34 at HO_215002 HO_215004 BK214 HB hx231_0 hx232_0 hHeld ⊢
              refine pure_ (i := 0) (N := some 65) (v := ?_) (a' := ?_) #[true, false, false, false, false, false, false, false, false, false] rfl rfl (any_of HT_.out (by kernel_rfl)) (fun _ _ _ h => h) (Or.inl ⟨by rfl, ?_⟩) ?_ ?_
              rotate_left
              ·intro w'
               go_simp
               with_reducible rfl
              rotate_left
              ·simp only [Act.put, List.setIfInBounds_toArray, List.set_cons_zero, List.set_cons_succ, i64_w, i32_w]
               rfl
              refine pure_ (i := 1) (N := some 66) (v := ?_) (a' := ?_) #[true, true, false, false, false, false, false, false, false, false] rfl rfl (any_of HT_.out (by kernel_rfl)) (fun _ _ _ h => h) (Or.inl ⟨by rfl, ?_⟩) ?_ ?_
              rotate_left
              ·intro w'
               go_simp
               with_reducible rfl
              rotate_left
              ·simp only [Act.put, List.setIfInBounds_toArray, List.set_cons_zero, List.set_cons_succ, i64_w, i32_w]
               rfl
              refine pure_ (i := 2) (N := some 67) (v := ?_) (a' := ?_) #[true, true, true, false, false, false, false, false, false, false] rfl rfl (any_of HT_.out (by kernel_rfl)) (fun _ _ _ h => h) (Or.inl ⟨by rfl, ?_⟩) ?_ ?_
              rotate_left
              ·intro w'
               go_simp
               with_reducible rfl
              rotate_left
              ·simp only [Act.put, List.setIfInBounds_toArray, List.set_cons_zero, List.set_cons_succ, i64_w, i32_w]
               rfl
              refine pure_ (i := 4) (N := some 69) (v := ?_) (a' := ?_) #[true, true, true, false, true, false, false, false, false, false] rfl rfl (any_of HT_.out (by kernel_rfl)) (fun _ _ _ h => h) (Or.inl ⟨by rfl, ?_⟩) ?_ ?_
              rotate_left
              ·intro w'
               go_simp
               with_reducible rfl
              rotate_left
              ·simp only [Act.put, List.setIfInBounds_toArray, List.set_cons_zero, List.set_cons_succ, i64_w, i32_w]
               rfl
              refine pure_ (i := 5) (N := some 70) (v := ?_) (a' := ?_) #[true, true, true, false, true, true, false, false, false, false] rfl rfl (any_of HT_.out (by kernel_rfl)) (fun _ _ _ h => h) (Or.inl ⟨by rfl, ?_⟩) ?_ ?_
              rotate_left
              ·intro w'
               go_simp
               with_reducible rfl
              rotate_left
              ·simp only [Act.put, List.setIfInBounds_toArray, List.set_cons_zero, List.set_cons_succ, i64_w, i32_w]
               rfl
              refine pure_ (i := 6) (N := some 71) (v := ?_) (a' := ?_) #[true, true, true, false, true, true, true, false, false, false] rfl rfl (any_of HT_.out (by kernel_rfl)) (fun _ _ _ h => h) (Or.inl ⟨by rfl, ?_⟩) ?_ ?_
              rotate_left
              ·intro w'
               go_simp
               with_reducible rfl
              rotate_left
              ·simp only [Act.put, List.setIfInBounds_toArray, List.set_cons_zero, List.set_cons_succ, i64_w, i32_w]
               rfl
              refine take_ (i := 3) (N := some 68) (v := ?_) (a' := ?_) #[true, true, true, true, true, true, true, false, false, false] rfl rfl (take_ofW HT_.out HW_.out (by kernel_rfl)) (fun _ _ _ h => h) (Or.inl ⟨by rfl, ?_⟩) hHeld ?_ ?_
              rotate_left
              ·rintro w' ⟨s0, s1⟩
               go_simp
               with_reducible rfl
              rotate_left
              ·simp only [Act.put, List.setIfInBounds_toArray, List.set_cons_zero, List.set_cons_succ, i64_w, i32_w]
               rfl
              refine take_ (i := 7) (N := some 72) (v := ?_) (a' := ?_) #[true, true, true, true, true, true, true, true, false, false] rfl rfl (take_ofW HT_.out HW_.out (by kernel_rfl)) (fun _ _ _ h => h) (Or.inl ⟨by rfl, ?_⟩) hHeld ?_ ?_
              rotate_left
              ·rintro w' ⟨s0, s1⟩
               go_simp
               with_reducible rfl
              rotate_left
              ·simp only [Act.put, List.setIfInBounds_toArray, List.set_cons_zero, List.set_cons_succ, i64_w, i32_w]
               rfl
              refine pure_ (i := 8) (N := some 73) (v := ?_) (a' := ?_) #[true, true, true, true, true, true, true, true, true, false] rfl rfl (any_of HT_.out (by kernel_rfl)) (fun _ _ _ h => h) (Or.inl ⟨by rfl, ?_⟩) ?_ ?_
              rotate_left
              ·intro w'
               go_simp
               with_reducible rfl
              rotate_left
              ·simp only [Act.put, List.setIfInBounds_toArray, List.set_cons_zero, List.set_cons_succ, i64_w, i32_w]
               rfl
              refine pure_ (i := 9) (N := some 7) (v := ?_) (a' := ?_) #[true, true, true, true, true, true, true, true, true, true] rfl rfl (any_of HT_.out (by kernel_rfl)) (fun _ _ _ h => h) (Or.inl ⟨by rfl, ?_⟩) ?_ ?_
              rotate_left
              ·intro w'
               go_simp
               with_reducible rfl
              rotate_left
              ·simp only [Act.put, List.setIfInBounds_toArray, List.set_cons_zero, List.set_cons_succ, i64_w, i32_w]
               rfl
              refine done_ (done_of HT_.out (by kernel_rfl)) ?_
              try go_wp2
              go_roundg k3
              case measure => have := HJ4.out; have := HK2.out; have := HK3.out; omega
              case rel => exact ⟨(((rd l0 x8_3) == (rd l1 x8_3))), (wrap64 (x8_3 + 1)), (by first | rfl | (simp; done) | (simp [*]; done)), (by first | rfl | (simp; done) | (simp [*]; done)), H', ⟨by have := HJ4.out; have := HK2.out; have := HK3.out; omega⟩, ⟨by (with_reducible repeat (first | apply Kd.R_alloc | apply Kd.R_drewN | apply Kd.R_drew)); exact HO_215002.out⟩, ⟨by (with_reducible repeat (first | apply Kd.N_alloc | apply Kd.N_drewN | apply Kd.N_drew)); exact HO_215004.out⟩, ⟨by (with_reducible repeat (first | refine blk_drewN ?_ _ | refine blk_drew ?_ | refine blk_alloc ?_ _)); exact BK214.out⟩, ⟨by repeat (first | (with_reducible first | exact HB.out | apply below_alloc | apply pw_below_drewN | apply below_drew1 | refine below_set ?_ GE214.out) | exact HB.out)⟩⟩
             ·rw [if_neg c33] at H
              exact absurd H (by simp)
            ·rw [if_neg c32] at H
             exact absurd H (by simp)
           ·rw [if_neg c31] at H
            have c31b0 : decide (x8_3 < (l0.length : Int)) = false := decide_eq_false c31
            clear c31
            replace H := Option.bind_eq_some_iff.mp H
            obtain ⟨t233, A350, H⟩ := H
            replace H : (if (t233 == true) = true then ((match_All.f k3 x215000_2 x215001_2 x215002_2 x215003_2 x215004_2 l0).bind fun t234 => (if t234 = true then ((match_Null.f k3 x215000_2 x215001_2 x215002_2 x215003_2 x215004_2).bind fun t235 => (some (t235 == ((l0.length : Int) == 0)))) else (none))) else (none)) = some r := H
            have A35 := Aside0.mk A350
            clear A350
            by_cases c36 : (t233 == true) = true
            ·rw [if_pos c36] at H
             (try (have c36b0 : t233 = true := by simpa using c36))
             have c36b1 : (t233 == true) = true := c36
             (try (have c36b2 : decide (t233 = true) = true := by simpa using c36))
             (try (have c36b3 : (t233 == true) = true := by simpa using c36))
             clear c36
             replace H := Option.bind_eq_some_iff.mp H
             obtain ⟨t234, A370, H⟩ := H
             replace H : (if t234 = true then ((match_Null.f k3 x215000_2 x215001_2 x215002_2 x215003_2 x215004_2).bind fun t235 => (some (t235 == ((l0.length : Int) == 0)))) else (none)) = some r := H
             have A37 := Aside0.mk A370
             clear A370
             by_cases c38 : t234 = true
             ·subst c38
              have H1 : ((match_Null.f k3 x215000_2 x215001_2 x215002_2 x215003_2 x215004_2).bind fun t235 => (some (t235 == ((l0.length : Int) == 0)))) = some r := by rw [if_pos rfl] at H; exact H
              clear H
              have H := H1
              clear H1
              replace H := Option.bind_eq_some_iff.mp H
              obtain ⟨t235, A390, H⟩ := H
              replace H : (some (t235 == ((l0.length : Int) == 0))) = some r := H
              have A39 := Aside0.mk A390
              clear A390
              obtain rfl := Option.some.inj H
              have hcz40_0 : wr.cell? ⟨gb214, 0, none⟩ = some (.int .i64 x215000_2) := (blk_cell BK214.out 0).trans rfl
              have hcz40_1 : wr.cell? ⟨gb214, 1, none⟩ = some (.int .i64 x215001_2) := (blk_cell BK214.out 1).trans rfl
              have hcz40_2 : wr.cell? ⟨gb214, 2, none⟩ = some (u215002) := (blk_cell BK214.out 2).trans rfl
              have hcz40_3 : wr.cell? ⟨gb214, 3, none⟩ = some (.string x215003_2) := (blk_cell BK214.out 3).trans rfl
              have hcz40_4 : wr.cell? ⟨gb214, 4, none⟩ = some (u215004) := (blk_cell BK214.out 4).trans rfl
              have hfz40_0 := blk_frozen BK214.out 0
              have hfz40_1 := blk_frozen BK214.out 1
              have hfz40_2 := blk_frozen BK214.out 2
              have hfz40_3 := blk_frozen BK214.out 3
              have hfz40_4 := blk_frozen BK214.out 4
              obtain ⟨Ao41, co41, eo41⟩ := Kd.R_slice HO_215002.out
              subst eo41
              obtain ⟨Ao42, co42, eo42⟩ := Kd.N_slice HO_215004.out
              subst eo42
              go_wp2_with (first | ((with_reducible refine gate_callee (f := 26) rfl ?_); refine goesL_ (some 76) rfl rfl Tryz.func26 (by kernel_rfl) rfl #[.agg #[.int .i64 x215000_2, .int .i64 x215001_2, .slice Ao41 x215002_2.length co41, .string x215003_2, .slice Ao42 x215004_2.length co42], .slice A1 l1.length c1] rfl (by (try simp only [List.map_toArray, List.map_cons, List.map_nil]); first | done | rfl | (simp only [List.length_drop, List.length_take]; rfl)) ?_; (with_reducible refine (match_All.calls k3 x215000_2 x215001_2 _ _ x215002_2 x215003_2 _ _ x215004_2 _ _ l1 t233 _ ?side1 ?side2 ?side3 ?side4 ?side5 ?side6 A35.out).mono ?_); (case side1 => repeat (first | exact (Kd.R_reads' HO_215002.out).2.2 | (with_reducible refine Kd.C_alloc ?_ _) | (with_reducible refine Kd.C_drewN ?_ _) | (with_reducible refine Kd.C_drew ?_))); (case side2 => exact (Kd.R_reads' HO_215002.out).2.1); (case side3 => repeat (first | exact (Kd.N_reads' HO_215004.out).2.2 | (with_reducible refine Kd.C_alloc ?_ _) | (with_reducible refine Kd.C_drewN ?_ _) | (with_reducible refine Kd.C_drew ?_))); (case side4 => exact (Kd.N_reads' HO_215004.out).2.1); (case side5 => repeat (first | exact (Kd.C_below HR1.out HB.out) | (with_reducible refine Kd.C_alloc ?_ _) | (with_reducible refine Kd.C_drewN ?_ _) | (with_reducible refine Kd.C_drew ?_))); (case side6 => exact HC1.out); rintro e w43 ⟨rfl, hb⟩; refine ⟨_, rfl, ?_⟩; have n0_ := Aside0.mk (Kd.R_below (by (with_reducible repeat (first | apply Kd.R_alloc | apply Kd.R_drewN | apply Kd.R_drew)); exact HO_215002.out) hb); have n1_ := Aside0.mk (Kd.N_below (by (with_reducible repeat (first | apply Kd.N_alloc | apply Kd.N_drewN | apply Kd.N_drew)); exact HO_215004.out) hb); have n2_ := Aside0.mk (blk_below (g := gb214) (o := .cells #[.int .i64 x215000_2, .int .i64 x215001_2, .slice Ao41 x215002_2.length co41, .string x215003_2, .slice Ao42 x215004_2.length co42] 26 (0, 0)) (by (with_reducible repeat (first | refine blk_drewN ?_ _ | refine blk_drew ?_ | refine blk_alloc ?_ _)); exact BK214.out) hb); have n3_ := Aside0.mk (below_step (by repeat (first | (with_reducible first | exact HB.out | apply below_alloc | apply pw_below_drewN | apply below_drew1 | refine below_set ?_ GE214.out) | exact HB.out)) hb); clear HO_215002; clear HO_215004; clear BK214; clear HB; have HO_215002 := n0_; have HO_215004 := n1_; have BK214 := n2_; have HB := n3_; clear n0_ n1_ n2_ n3_; (try clear hb); (try clear hb2); (try clear hk); (try clear hi); have hcz44_0 : w43.cell? ⟨gb214, 0, none⟩ = some (.int .i64 x215000_2) := (blk_cell BK214.out 0).trans rfl; have hcz44_1 : w43.cell? ⟨gb214, 1, none⟩ = some (.int .i64 x215001_2) := (blk_cell BK214.out 1).trans rfl; have hcz44_2 : w43.cell? ⟨gb214, 2, none⟩ = some (.slice Ao41 x215002_2.length co41) := (blk_cell BK214.out 2).trans rfl; have hcz44_3 : w43.cell? ⟨gb214, 3, none⟩ = some (.string x215003_2) := (blk_cell BK214.out 3).trans rfl; have hcz44_4 : w43.cell? ⟨gb214, 4, none⟩ = some (.slice Ao42 x215004_2.length co42) := (blk_cell BK214.out 4).trans rfl; have hfz44_0 := blk_frozen BK214.out 0; have hfz44_1 := blk_frozen BK214.out 1; have hfz44_2 := blk_frozen BK214.out 2; have hfz44_3 := blk_frozen BK214.out 3; have hfz44_4 := blk_frozen BK214.out 4) | (go_at_call 26; (with_reducible refine (match_All.calls k3 x215000_2 x215001_2 _ _ x215002_2 x215003_2 _ _ x215004_2 _ _ l0 true _ ?side1 ?side2 ?side3 ?side4 ?side5 ?side6 A37.out).mono ?_); (case side1 => repeat (first | exact (Kd.R_reads' HO_215002.out).2.2 | (with_reducible refine Kd.C_alloc ?_ _) | (with_reducible refine Kd.C_drewN ?_ _) | (with_reducible refine Kd.C_drew ?_))); (case side2 => exact (Kd.R_reads' HO_215002.out).2.1); (case side3 => repeat (first | exact (Kd.N_reads' HO_215004.out).2.2 | (with_reducible refine Kd.C_alloc ?_ _) | (with_reducible refine Kd.C_drewN ?_ _) | (with_reducible refine Kd.C_drew ?_))); (case side4 => exact (Kd.N_reads' HO_215004.out).2.1); (case side5 => repeat (first | exact (Kd.C_below HR0.out HB.out) | (with_reducible refine Kd.C_alloc ?_ _) | (with_reducible refine Kd.C_drewN ?_ _) | (with_reducible refine Kd.C_drew ?_))); (case side6 => exact HC0.out); rintro e w45 ⟨rfl, hb⟩; have n0_ := Aside0.mk (Kd.R_below (by (with_reducible repeat (first | apply Kd.R_alloc | apply Kd.R_drewN | apply Kd.R_drew)); exact HO_215002.out) hb); have n1_ := Aside0.mk (Kd.N_below (by (with_reducible repeat (first | apply Kd.N_alloc | apply Kd.N_drewN | apply Kd.N_drew)); exact HO_215004.out) hb); have n2_ := Aside0.mk (blk_below (g := gb214) (o := .cells #[.int .i64 x215000_2, .int .i64 x215001_2, .slice Ao41 x215002_2.length co41, .string x215003_2, .slice Ao42 x215004_2.length co42] 26 (0, 0)) (by (with_reducible repeat (first | refine blk_drewN ?_ _ | refine blk_drew ?_ | refine blk_alloc ?_ _)); exact BK214.out) hb); have n3_ := Aside0.mk (below_step (by repeat (first | (with_reducible first | exact HB.out | apply below_alloc | apply pw_below_drewN | apply below_drew1 | refine below_set ?_ GE214.out) | exact HB.out)) hb); clear HO_215002; clear HO_215004; clear BK214; clear HB; have HO_215002 := n0_; have HO_215004 := n1_; have BK214 := n2_; have HB := n3_; clear n0_ n1_ n2_ n3_; (try clear hb); (try clear hb2); (try clear hk); (try clear hi); have hcz46_0 : w45.cell? ⟨gb214, 0, none⟩ = some (.int .i64 x215000_2) := (blk_cell BK214.out 0).trans rfl; have hcz46_1 : w45.cell? ⟨gb214, 1, none⟩ = some (.int .i64 x215001_2) := (blk_cell BK214.out 1).trans rfl; have hcz46_2 : w45.cell? ⟨gb214, 2, none⟩ = some (.slice Ao41 x215002_2.length co41) := (blk_cell BK214.out 2).trans rfl; have hcz46_3 : w45.cell? ⟨gb214, 3, none⟩ = some (.string x215003_2) := (blk_cell BK214.out 3).trans rfl; have hcz46_4 : w45.cell? ⟨gb214, 4, none⟩ = some (.slice Ao42 x215004_2.length co42) := (blk_cell BK214.out 4).trans rfl; have hfz46_0 := blk_frozen BK214.out 0; have hfz46_1 := blk_frozen BK214.out 1; have hfz46_2 := blk_frozen BK214.out 2; have hfz46_3 := blk_frozen BK214.out 3; have hfz46_4 := blk_frozen BK214.out 4) | (go_at_call 33; (with_reducible refine (match_Null.calls k3 x215000_2 x215001_2 _ _ x215002_2 x215003_2 _ _ x215004_2 t235 _ ?side1 ?side2 ?side3 ?side4 A39.out).mono ?_); (case side1 => repeat (first | exact (Kd.R_reads' HO_215002.out).2.2 | (with_reducible refine Kd.C_alloc ?_ _) | (with_reducible refine Kd.C_drewN ?_ _) | (with_reducible refine Kd.C_drew ?_))); (case side2 => exact (Kd.R_reads' HO_215002.out).2.1); (case side3 => repeat (first | exact (Kd.N_reads' HO_215004.out).2.2 | (with_reducible refine Kd.C_alloc ?_ _) | (with_reducible refine Kd.C_drewN ?_ _) | (with_reducible refine Kd.C_drew ?_))); (case side4 => exact (Kd.N_reads' HO_215004.out).2.1); rintro e w47 ⟨rfl, hb⟩; have n0_ := Aside0.mk (Kd.R_below (by (with_reducible repeat (first | apply Kd.R_alloc | apply Kd.R_drewN | apply Kd.R_drew)); exact HO_215002.out) hb); have n1_ := Aside0.mk (Kd.N_below (by (with_reducible repeat (first | apply Kd.N_alloc | apply Kd.N_drewN | apply Kd.N_drew)); exact HO_215004.out) hb); have n2_ := Aside0.mk (blk_below (g := gb214) (o := .cells #[.int .i64 x215000_2, .int .i64 x215001_2, .slice Ao41 x215002_2.length co41, .string x215003_2, .slice Ao42 x215004_2.length co42] 26 (0, 0)) (by (with_reducible repeat (first | refine blk_drewN ?_ _ | refine blk_drew ?_ | refine blk_alloc ?_ _)); exact BK214.out) hb); have n3_ := Aside0.mk (below_step (by repeat (first | (with_reducible first | exact HB.out | apply below_alloc | apply pw_below_drewN | apply below_drew1 | refine below_set ?_ GE214.out) | exact HB.out)) hb); clear HO_215002; clear HO_215004; clear BK214; clear HB; have HO_215002 := n0_; have HO_215004 := n1_; have BK214 := n2_; have HB := n3_; clear n0_ n1_ n2_ n3_; (try clear hb); (try clear hb2); (try clear hk); (try clear hi)))
              go_ret
              exact ⟨by first | rfl | (simp [errW_none, errW_some] <;> rfl) | (simp [*, errW_none, errW_some] <;> rfl), by repeat (first | (with_reducible first | exact HB.out | apply below_alloc | apply pw_below_drewN | apply below_drew1 | refine below_set ?_ GE214.out) | exact HB.out)⟩
             ·replace c38 := Bool.eq_false_iff.mpr c38
              subst c38
              have H1 : (none) = some r := by rw [if_neg (show ¬ (false = true) by decide)] at H; exact H
              clear H
              have H := H1
              clear H1
              exact absurd H (by simp)
            ·rw [if_neg c36] at H
             exact absurd H (by simp)
          ·replace c30 := Bool.eq_false_iff.mpr c30
           subst c30
           have H1 : ((match_All.f k3 x215000_2 x215001_2 x215002_2 x215003_2 x215004_2 l1).bind fun t236 => (if (t236 == false) = true then ((match_All.f k3 x215000_2 x215001_2 x215002_2 x215003_2 x215004_2 l0).bind fun t237 => (if t237 = true then ((match_Null.f k3 x215000_2 x215001_2 x215002_2 x215003_2 x215004_2).bind fun t238 => (some (t238 == ((l0.length : Int) == 0)))) else (none))) else (none))) = some r := by rw [if_neg (show ¬ (false = true) by decide)] at H; exact H
           clear H
           have H := H1
           clear H1
           replace H := Option.bind_eq_some_iff.mp H
           obtain ⟨t236, A480, H⟩ := H
           replace H : (if (t236 == false) = true then ((match_All.f k3 x215000_2 x215001_2 x215002_2 x215003_2 x215004_2 l0).bind fun t237 => (if t237 = true then ((match_Null.f k3 x215000_2 x215001_2 x215002_2 x215003_2 x215004_2).bind fun t238 => (some (t238 == ((l0.length : Int) == 0)))) else (none))) else (none)) = some r := H
           have A48 := Aside0.mk A480
           clear A480
           by_cases c49 : (t236 == false) = true
           ·rw [if_pos c49] at H
            (try (have c49b0 : t236 = false := by simpa using c49))
            have c49b1 : (t236 == false) = true := c49
            (try (have c49b2 : decide (t236 = false) = true := by simpa using c49))
            (try (have c49b3 : (t236 == false) = true := by simpa using c49))
            clear c49
            replace H := Option.bind_eq_some_iff.mp H
            obtain ⟨t237, A500, H⟩ := H
            replace H : (if t237 = true then ((match_Null.f k3 x215000_2 x215001_2 x215002_2 x215003_2 x215004_2).bind fun t238 => (some (t238 == ((l0.length : Int) == 0)))) else (none)) = some r := H
            have A50 := Aside0.mk A500
            clear A500
            by_cases c51 : t237 = true
            ·subst c51
             have H1 : ((match_Null.f k3 x215000_2 x215001_2 x215002_2 x215003_2 x215004_2).bind fun t238 => (some (t238 == ((l0.length : Int) == 0)))) = some r := by rw [if_pos rfl] at H; exact H
             clear H
             have H := H1
             clear H1
             replace H := Option.bind_eq_some_iff.mp H
             obtain ⟨t238, A520, H⟩ := H
             replace H : (some (t238 == ((l0.length : Int) == 0))) = some r := H
             have A52 := Aside0.mk A520
             clear A520
             obtain rfl := Option.some.inj H
             have hcz53_0 : wr.cell? ⟨gb214, 0, none⟩ = some (.int .i64 x215000_2) := (blk_cell BK214.out 0).trans rfl
             have hcz53_1 : wr.cell? ⟨gb214, 1, none⟩ = some (.int .i64 x215001_2) := (blk_cell BK214.out 1).trans rfl
             have hcz53_2 : wr.cell? ⟨gb214, 2, none⟩ = some (u215002) := (blk_cell BK214.out 2).trans rfl
             have hcz53_3 : wr.cell? ⟨gb214, 3, none⟩ = some (.string x215003_2) := (blk_cell BK214.out 3).trans rfl
             have hcz53_4 : wr.cell? ⟨gb214, 4, none⟩ = some (u215004) := (blk_cell BK214.out 4).trans rfl
             have hfz53_0 := blk_frozen BK214.out 0
             have hfz53_1 := blk_frozen BK214.out 1
             have hfz53_2 := blk_frozen BK214.out 2
             have hfz53_3 := blk_frozen BK214.out 3
             have hfz53_4 := blk_frozen BK214.out 4
             obtain ⟨Ao54, co54, eo54⟩ := Kd.R_slice HO_215002.out
             subst eo54
             obtain ⟨Ao55, co55, eo55⟩ := Kd.N_slice HO_215004.out
             subst eo55
             go_wp2_with (first | ((with_reducible refine gate_callee (f := 26) rfl ?_); refine goesL_ (some 76) rfl rfl Tryz.func26 (by kernel_rfl) rfl #[.agg #[.int .i64 x215000_2, .int .i64 x215001_2, .slice Ao54 x215002_2.length co54, .string x215003_2, .slice Ao55 x215004_2.length co55], .slice A1 l1.length c1] rfl (by (try simp only [List.map_toArray, List.map_cons, List.map_nil]); first | done | rfl | (simp only [List.length_drop, List.length_take]; rfl)) ?_; (with_reducible refine (match_All.calls k3 x215000_2 x215001_2 _ _ x215002_2 x215003_2 _ _ x215004_2 _ _ l1 t236 _ ?side1 ?side2 ?side3 ?side4 ?side5 ?side6 A48.out).mono ?_); (case side1 => repeat (first | exact (Kd.R_reads' HO_215002.out).2.2 | (with_reducible refine Kd.C_alloc ?_ _) | (with_reducible refine Kd.C_drewN ?_ _) | (with_reducible refine Kd.C_drew ?_))); (case side2 => exact (Kd.R_reads' HO_215002.out).2.1); (case side3 => repeat (first | exact (Kd.N_reads' HO_215004.out).2.2 | (with_reducible refine Kd.C_alloc ?_ _) | (with_reducible refine Kd.C_drewN ?_ _) | (with_reducible refine Kd.C_drew ?_))); (case side4 => exact (Kd.N_reads' HO_215004.out).2.1); (case side5 => repeat (first | exact (Kd.C_below HR1.out HB.out) | (with_reducible refine Kd.C_alloc ?_ _) | (with_reducible refine Kd.C_drewN ?_ _) | (with_reducible refine Kd.C_drew ?_))); (case side6 => exact HC1.out); rintro e w56 ⟨rfl, hb⟩; refine ⟨_, rfl, ?_⟩; have n0_ := Aside0.mk (Kd.R_below (by (with_reducible repeat (first | apply Kd.R_alloc | apply Kd.R_drewN | apply Kd.R_drew)); exact HO_215002.out) hb); have n1_ := Aside0.mk (Kd.N_below (by (with_reducible repeat (first | apply Kd.N_alloc | apply Kd.N_drewN | apply Kd.N_drew)); exact HO_215004.out) hb); have n2_ := Aside0.mk (blk_below (g := gb214) (o := .cells #[.int .i64 x215000_2, .int .i64 x215001_2, .slice Ao54 x215002_2.length co54, .string x215003_2, .slice Ao55 x215004_2.length co55] 26 (0, 0)) (by (with_reducible repeat (first | refine blk_drewN ?_ _ | refine blk_drew ?_ | refine blk_alloc ?_ _)); exact BK214.out) hb); have n3_ := Aside0.mk (below_step (by repeat (first | (with_reducible first | exact HB.out | apply below_alloc | apply pw_below_drewN | apply below_drew1 | refine below_set ?_ GE214.out) | exact HB.out)) hb); clear HO_215002; clear HO_215004; clear BK214; clear HB; have HO_215002 := n0_; have HO_215004 := n1_; have BK214 := n2_; have HB := n3_; clear n0_ n1_ n2_ n3_; (try clear hb); (try clear hb2); (try clear hk); (try clear hi); have hcz57_0 : w56.cell? ⟨gb214, 0, none⟩ = some (.int .i64 x215000_2) := (blk_cell BK214.out 0).trans rfl; have hcz57_1 : w56.cell? ⟨gb214, 1, none⟩ = some (.int .i64 x215001_2) := (blk_cell BK214.out 1).trans rfl; have hcz57_2 : w56.cell? ⟨gb214, 2, none⟩ = some (.slice Ao54 x215002_2.length co54) := (blk_cell BK214.out 2).trans rfl; have hcz57_3 : w56.cell? ⟨gb214, 3, none⟩ = some (.string x215003_2) := (blk_cell BK214.out 3).trans rfl; have hcz57_4 : w56.cell? ⟨gb214, 4, none⟩ = some (.slice Ao55 x215004_2.length co55) := (blk_cell BK214.out 4).trans rfl; have hfz57_0 := blk_frozen BK214.out 0; have hfz57_1 := blk_frozen BK214.out 1; have hfz57_2 := blk_frozen BK214.out 2; have hfz57_3 := blk_frozen BK214.out 3; have hfz57_4 := blk_frozen BK214.out 4) | (go_at_call 26; (with_reducible refine (match_All.calls k3 x215000_2 x215001_2 _ _ x215002_2 x215003_2 _ _ x215004_2 _ _ l0 true _ ?side1 ?side2 ?side3 ?side4 ?side5 ?side6 A50.out).mono ?_); (case side1 => repeat (first | exact (Kd.R_reads' HO_215002.out).2.2 | (with_reducible refine Kd.C_alloc ?_ _) | (with_reducible refine Kd.C_drewN ?_ _) | (with_reducible refine Kd.C_drew ?_))); (case side2 => exact (Kd.R_reads' HO_215002.out).2.1); (case side3 => repeat (first | exact (Kd.N_reads' HO_215004.out).2.2 | (with_reducible refine Kd.C_alloc ?_ _) | (with_reducible refine Kd.C_drewN ?_ _) | (with_reducible refine Kd.C_drew ?_))); (case side4 => exact (Kd.N_reads' HO_215004.out).2.1); (case side5 => repeat (first | exact (Kd.C_below HR0.out HB.out) | (with_reducible refine Kd.C_alloc ?_ _) | (with_reducible refine Kd.C_drewN ?_ _) | (with_reducible refine Kd.C_drew ?_))); (case side6 => exact HC0.out); rintro e w58 ⟨rfl, hb⟩; have n0_ := Aside0.mk (Kd.R_below (by (with_reducible repeat (first | apply Kd.R_alloc | apply Kd.R_drewN | apply Kd.R_drew)); exact HO_215002.out) hb); have n1_ := Aside0.mk (Kd.N_below (by (with_reducible repeat (first | apply Kd.N_alloc | apply Kd.N_drewN | apply Kd.N_drew)); exact HO_215004.out) hb); have n2_ := Aside0.mk (blk_below (g := gb214) (o := .cells #[.int .i64 x215000_2, .int .i64 x215001_2, .slice Ao54 x215002_2.length co54, .string x215003_2, .slice Ao55 x215004_2.length co55] 26 (0, 0)) (by (with_reducible repeat (first | refine blk_drewN ?_ _ | refine blk_drew ?_ | refine blk_alloc ?_ _)); exact BK214.out) hb); have n3_ := Aside0.mk (below_step (by repeat (first | (with_reducible first | exact HB.out | apply below_alloc | apply pw_below_drewN | apply below_drew1 | refine below_set ?_ GE214.out) | exact HB.out)) hb); clear HO_215002; clear HO_215004; clear BK214; clear HB; have HO_215002 := n0_; have HO_215004 := n1_; have BK214 := n2_; have HB := n3_; clear n0_ n1_ n2_ n3_; (try clear hb); (try clear hb2); (try clear hk); (try clear hi); have hcz59_0 : w58.cell? ⟨gb214, 0, none⟩ = some (.int .i64 x215000_2) := (blk_cell BK214.out 0).trans rfl; have hcz59_1 : w58.cell? ⟨gb214, 1, none⟩ = some (.int .i64 x215001_2) := (blk_cell BK214.out 1).trans rfl; have hcz59_2 : w58.cell? ⟨gb214, 2, none⟩ = some (.slice Ao54 x215002_2.length co54) := (blk_cell BK214.out 2).trans rfl; have hcz59_3 : w58.cell? ⟨gb214, 3, none⟩ = some (.string x215003_2) := (blk_cell BK214.out 3).trans rfl; have hcz59_4 : w58.cell? ⟨gb214, 4, none⟩ = some (.slice Ao55 x215004_2.length co55) := (blk_cell BK214.out 4).trans rfl; have hfz59_0 := blk_frozen BK214.out 0; have hfz59_1 := blk_frozen BK214.out 1; have hfz59_2 := blk_frozen BK214.out 2; have hfz59_3 := blk_frozen BK214.out 3; have hfz59_4 := blk_frozen BK214.out 4) | (go_at_call 33; (with_reducible refine (match_Null.calls k3 x215000_2 x215001_2 _ _ x215002_2 x215003_2 _ _ x215004_2 t238 _ ?side1 ?side2 ?side3 ?side4 A52.out).mono ?_); (case side1 => repeat (first | exact (Kd.R_reads' HO_215002.out).2.2 | (with_reducible refine Kd.C_alloc ?_ _) | (with_reducible refine Kd.C_drewN ?_ _) | (with_reducible refine Kd.C_drew ?_))); (case side2 => exact (Kd.R_reads' HO_215002.out).2.1); (case side3 => repeat (first | exact (Kd.N_reads' HO_215004.out).2.2 | (with_reducible refine Kd.C_alloc ?_ _) | (with_reducible refine Kd.C_drewN ?_ _) | (with_reducible refine Kd.C_drew ?_))); (case side4 => exact (Kd.N_reads' HO_215004.out).2.1); rintro e w60 ⟨rfl, hb⟩; have n0_ := Aside0.mk (Kd.R_below (by (with_reducible repeat (first | apply Kd.R_alloc | apply Kd.R_drewN | apply Kd.R_drew)); exact HO_215002.out) hb); have n1_ := Aside0.mk (Kd.N_below (by (with_reducible repeat (first | apply Kd.N_alloc | apply Kd.N_drewN | apply Kd.N_drew)); exact HO_215004.out) hb); have n2_ := Aside0.mk (blk_below (g := gb214) (o := .cells #[.int .i64 x215000_2, .int .i64 x215001_2, .slice Ao54 x215002_2.length co54, .string x215003_2, .slice Ao55 x215004_2.length co55] 26 (0, 0)) (by (with_reducible repeat (first | refine blk_drewN ?_ _ | refine blk_drew ?_ | refine blk_alloc ?_ _)); exact BK214.out) hb); have n3_ := Aside0.mk (below_step (by repeat (first | (with_reducible first | exact HB.out | apply below_alloc | apply pw_below_drewN | apply below_drew1 | refine below_set ?_ GE214.out) | exact HB.out)) hb); clear HO_215002; clear HO_215004; clear BK214; clear HB; have HO_215002 := n0_; have HO_215004 := n1_; have BK214 := n2_; have HB := n3_; clear n0_ n1_ n2_ n3_; (try clear hb); (try clear hb2); (try clear hk); (try clear hi)))
             go_ret
             exact ⟨by first | rfl | (simp [errW_none, errW_some] <;> rfl) | (simp [*, errW_none, errW_some] <;> rfl), by repeat (first | (with_reducible first | exact HB.out | apply below_alloc | apply pw_below_drewN | apply below_drew1 | refine below_set ?_ GE214.out) | exact HB.out)⟩
            ·replace c51 := Bool.eq_false_iff.mpr c51
             subst c51
             have H1 : (none) = some r := by rw [if_neg (show ¬ (false = true) by decide)] at H; exact H
             clear H
             have H := H1
             clear H1
             exact absurd H (by simp)
           ·rw [if_neg c49] at H
            exact absurd H (by simp)
 ·replace c4 := Bool.eq_false_iff.mpr c4
  subst c4
  have H1 : (none) = some r := by rw [if_neg (show ¬ (false = true) by decide)] at H; exact H
  clear H
  have H := H1
  clear H1
  exact absurd H (by simp)

def hornbooklaw8_MatchWord.Pure : Prop := ∀ (l0 : List Int) (l1 : List Int), l0.length ≤ maxLen → l0.length * 4 ≤ 140737488351232 → (∀ x ∈ l0, (Lit.int .i32 x).wf = true) → l1.length ≤ maxLen → l1.length * 4 ≤ 140737488351232 → (∀ x ∈ l1, (Lit.int .i32 x).wf = true) → ∃ k, hornbooklaw8_MatchWord.f k l0 l1 = some true
theorem hornbooklaw8_MatchWord.walk (P : hornbooklaw8_MatchWord.Pure) (a0 : Option Addr) (len0 cap0 : Nat) (z0 : List Int) (a1 : Option Addr) (len1 cap1 : Nat) (z1 : List Int) (w : World) (w0 : (a0 = none ∧ len0 = 0 ∧ cap0 = 0 ∧ z0 = []) ∨ ∃ x, a0 = some x ∧ len0 ≤ cap0 ∧ cap0 ≤ maxLen ∧ z0.length = cap0 ∧ (∀ i, i < z0.length → w.cell? (x.add i) = some (.int .i32 (z0.getD i 0))) ∧ ∀ n ∈ z0, (Lit.int .i32 n).wf = true) (y0 : len0 * 4 ≤ 140737488351232) (w1 : (a1 = none ∧ len1 = 0 ∧ cap1 = 0 ∧ z1 = []) ∨ ∃ x, a1 = some x ∧ len1 ≤ cap1 ∧ cap1 ≤ maxLen ∧ z1.length = cap1 ∧ (∀ i, i < z1.length → w.cell? (x.add i) = some (.int .i32 (z1.getD i 0))) ∧ ∀ n ∈ z1, (Lit.int .i32 n).wf = true) (y1 : len1 * 4 ≤ 140737488351232) :
  Calls Tryz.prog 9 #[.slice a0 len0 cap0, .slice a1 len1 cap1] w fun e w' => e = .returned (.bool true) ∧ Below w.heap.size w w' := by
 obtain ⟨l0, rfl, hr0, hm0, hw0, hc0⟩ := ReadsInt.ofRowC w0
 obtain ⟨l1, rfl, hr1, hm1, hw1, hc1⟩ := ReadsInt.ofRowC w1
 obtain ⟨k, h⟩ := P l0 l1 hm0 y0 hw0 hm1 y1 hw1
 refine (hornbooklaw8_MatchWord.calls k _ _ l0 _ _ l1 true w (Kd.C_of_reads (d := (0 : Int)) (h1 := fun _ => rfl) hr0) hc0 (Kd.C_of_reads (d := (0 : Int)) (h1 := fun _ => rfl) hr1) hc1 h).mono ?_
 rintro e w' ⟨rfl, hd⟩
 exact ⟨rfl, hd⟩

end Go.Proofs.YtfinjenkgpndlaaGreatDoor.PA

namespace Go.Proofs.YtfinjenkgpndlaaGreatDoor.PA
open Go.RowKit Go.Shelf Go.Proofs.YtfinjenkgpndlaaGreatDoorW.PrintWords Go.Proofs.YtfinjenkgpndlaaGreatDoorW.PrintLast Go.Proofs.YtfinjenkgpndlaaGreatDoorW.PrintMore
set_option linter.unusedVariables false
set_option linter.unusedSimpArgs false

theorem rd_at (pre : List Int) (c : Int) (suf : List Int) : rd (pre ++ c :: suf) (pre.length : Int) = c := by
  unfold rd
  simp [List.getD]
theorem index_l0 (v : Int) : ∀ (suf pre : List Int), (pre ++ suf).length < 4611686018427387904 → Evt (fun k => slices_Index_int_int.l0 k (pre ++ suf) v ((pre ++ suf).length : Int) (pre.length : Int)) (if v ∈ suf then ((pre.length + suf.idxOf v : Nat) : Int) else -1)
  | [], pre, hl => by
    refine Evt.succ (fun k => slices_Index_int_int.l0.eq_2 _ _ _ _ _) ?_
    simp only [List.append_nil, Int.lt_irrefl, if_false]
    exact Evt.pure _
  | c :: cs, pre, hl => by
    have hl' : pre.length + (cs.length + 1) < 4611686018427387904 := by simpa using hl
    have ih := index_l0 v cs (pre ++ [c]) (by simpa using hl)
    rw [List.append_assoc, List.singleton_append] at ih
    have e1 : ((pre.length : Int)) < ((pre ++ c :: cs).length : Int) := by simp only [List.length_append, List.length_cons]; omega
    have e3 : wrap64 ((pre.length : Int) + 1) = ((pre ++ [c]).length : Int) := by rw [w64 _ (by omega)]; simp
    refine Evt.succ (fun k => slices_Index_int_int.l0.eq_2 _ _ _ _ _) ?_
    simp only [if_pos e1, if_pos (Int.natCast_nonneg pre.length), rd_at, e3]
    by_cases hb : v = c
    · subst hb
      simp only [if_true, List.mem_cons, true_or, List.idxOf_cons_self, Nat.add_zero]
      exact Evt.pure _
    · simp only [if_neg hb]
      refine ih.cast ?_
      by_cases hm : v ∈ cs
      · rw [if_pos hm, if_pos (List.mem_cons_of_mem _ hm), List.idxOf_cons, beq_eq_false_iff_ne.2 (fun e => hb e.symm)]
        simp
        omega
      · rw [if_neg hm, if_neg (fun h => by rcases List.mem_cons.1 h with h | h; exact hb h; exact hm h)]
theorem contains_ev (l : List Int) (v : Int) (hl : l.length < 4611686018427387904) : Evt (fun k => slices_Contains_int_int.f k l v) (decide (v ∈ l)) := by
  have h := index_l0 v l [] (by simpa using hl)
  unfold slices_Contains_int_int.f slices_Index_int_int.f
  refine Evt.bind (a := if v ∈ l then (((([] : List Int).length + l.idxOf v : Nat)) : Int) else (-1 : Int)) h ?_
  by_cases hm : v ∈ l
  · rw [if_pos hm, decide_eq_true hm]
    exact Evt.congr (fun _ => by rw [decide_eq_true (by omega)]) (Evt.pure _)
  · rw [if_neg hm, decide_eq_false hm]
    exact Evt.congr (fun _ => by rw [decide_eq_false (by omega)]) (Evt.pure _)
theorem ends_len (e : Nd) (x : List Int) (i : Int) : (endsM e x i).length ≤ x.length + 1 := by
  unfold endsM
  split
  · simp
  · rw [List.length_map]
    exact Nat.le_trans (List.length_filter_le _ _) (by rw [List.length_range]; exact Nat.le_refl _)
theorem ends_all (e : Nd) (x : List Int) : decide ((x.length : Int) ∈ endsM e x 0) = allB e x := by
  unfold endsM allB
  cases hok : okB e with
  | false =>
    rw [if_pos (.inr (.inr rfl))]
    simp
  | true =>
    rw [if_neg (by rintro (h | h | h); omega; omega; cases h), Bool.true_and]
    have h : ((x.length : Int) ∈ ((List.range (x.length + 1)).filter fun j => mtB x e (0 : Int).toNat j).map fun (j : Nat) => (j : Int)) ↔ mtB x e 0 x.length = true := by
      rw [List.mem_map]
      constructor
      · rintro ⟨j, h1, h2⟩
        rw [List.mem_filter] at h1
        obtain rfl : j = x.length := by omega
        exact h1.2
      · intro h1
        exact ⟨x.length, by rw [List.mem_filter, List.mem_range]; exact ⟨by omega, h1⟩, rfl⟩
    cases hm : mtB x e 0 x.length with
    | false => exact decide_eq_false (fun h2 => by rw [h.1 h2] at hm; cases hm)
    | true => exact decide_eq_true (h.2 hm)
theorem all_ev (e : Nd) (x : List Int) (hv : noV e = true) (hx : x.length < 100000000) : Evt (fun k => match_All.f k e.f0 e.f1 e.f2 e.f3 e.f4 x) (allB e x) := by
  obtain ⟨a, b, c, d, ks⟩ := e
  have he : match_Ends.f a b c d ks x 0 = some (endsM ⟨a, b, c, d, ks⟩ x 0) := by
    unfold match_Ends.f
    rw [if_pos ⟨hv, hx⟩]
  have hc := contains_ev (endsM ⟨a, b, c, d, ks⟩ x 0) (x.length : Int) (by have := ends_len ⟨a, b, c, d, ks⟩ x 0; omega)
  rw [ends_all] at hc
  refine Evt.congr (g := fun k => (slices_Contains_int_int.f k (endsM ⟨a, b, c, d, ks⟩ x 0) (x.length : Int)).bind fun t => some t) (fun k => ?_) (Evt.bind hc (Evt.pure _))
  unfold match_All.f
  rw [he]
  rfl
theorem null_ev (e : Nd) (hv : noV e = true) : Evt (fun k => match_Null.f k e.f0 e.f1 e.f2 e.f3 e.f4) (allB e []) := by
  unfold match_Null.f
  exact Evt.bind (all_ev e [] hv (by simp)) (Evt.pure _)
end Go.Proofs.YtfinjenkgpndlaaGreatDoor.PA

namespace Go.Proofs.YtfinjenkgpndlaaGreatDoor.Pure
open Go.RowKit Go.Proofs.YtfinjenkgpndlaaGreatDoor.PA Go.Proofs.YtfinjenkgpndlaaGreatDoorW.PrintWords Go.Proofs.YtfinjenkgpndlaaGreatDoorW.PrintLast
set_option linter.unusedVariables false
set_option linter.unusedSimpArgs false

theorem ndS_pre (c : Int) : preN (ndS c c) = [ndS c c] := rfl
theorem ndS_isN {c : Int} (h0 : 0 ≤ c) (h1 : c ≤ 1114111) : isN (ndS c c) = true := by
  rw [isN_iff, ndS_pre]
  refine ⟨by simp, fun x hx => ?_⟩
  obtain rfl : x = ndS c c := by simpa using hx
  have hg : good (⟨c, c⟩ : Rg) = true := good_iff.2 ⟨h0, Int.le_refl _, h1⟩
  unfold plainB ndS
  simp [kidsK, PA.isG, hg]
theorem ndS_noV (c : Int) : noV (ndS c c) = true := by
  rw [noV_iff, ndS_pre]
  intro x hx
  obtain rfl : x = ndS c c := by simpa using hx
  show (1 : Int) ≠ 2
  decide
theorem nd0_isN : isN (nd0 3) = true := by
  rw [isN_iff, pre_nil]
  refine ⟨by simp, fun x hx => ?_⟩
  obtain rfl : x = nd0 3 := by simpa using hx
  rfl
theorem nd0_noV : noV (nd0 3) = true := by
  rw [noV_iff, pre_nil]
  intro x hx
  obtain rfl : x = nd0 3 := by simpa using hx
  decide
theorem word_facts : ∀ (n : Nat) (w : List Int), w.length = n → n ≤ 20 → (∀ c ∈ w, 0 ≤ c ∧ c ≤ 1114111) → (preN (wordN w)).length = 1 + 2 * n ∧ isN (wordN w) = true ∧ noV (wordN w) = true
  | 0, w, hn, h20, hw => by
    obtain rfl := List.eq_nil_of_length_eq_zero hn
    exact ⟨rfl, nd0_isN, nd0_noV⟩
  | n + 1, w, hn, h20, hw => by
    obtain ⟨v, c, rfl⟩ : ∃ v c, w = v ++ [c] := by
      have hne : w ≠ [] := by intro e; subst e; simp at hn
      exact ⟨w.dropLast, w.getLast hne, (List.dropLast_concat_getLast hne).symm⟩
    have hv : v.length = n := by simpa using hn
    obtain ⟨h1, h2, h3⟩ := word_facts n v hv (by omega) (fun d hd => hw d (by simp [hd]))
    have hc := hw c (by simp)
    rw [wordN_snoc]
    refine ⟨?_, isN_two (.inl rfl) h2 (ndS_isN hc.1 hc.2) (by rw [h1, ndS_pre]; simp; omega), noV_two (by decide) h3 (ndS_noV c)⟩
    rw [pre_two, ndS_pre]
    simp [h1]
    omega
theorem word_ok {w : List Int} (h : w.length ≤ 20) (hw : ∀ c ∈ w, 0 ≤ c ∧ c ≤ 1114111) : okB (wordN w) = true := by
  obtain ⟨_, h2, h3⟩ := word_facts w.length w rfl h hw
  unfold okB
  rw [h2, h3]; rfl
theorem word_allB {w : List Int} (h : w.length ≤ 20) (hw : ∀ c ∈ w, 0 ≤ c ∧ c ≤ 1114111) (x : List Int) : allB (wordN w) x = decide (x = w) := by
  have h1 := (allB_iff (x := x) (word_ok h hw)).trans (word_all x w hw)
  cases hb : allB (wordN w) x with
  | true => exact (decide_eq_true (h1.1 hb)).symm
  | false => exact (decide_eq_false (fun e => by rw [h1.2 e] at hb; cases hb)).symm
section
variable {w t : List Int}
theorem word_end (h : w.length ≤ 20) (ht : t.length ≤ 20) (hw : ∀ c ∈ w, 0 ≤ c ∧ c ≤ 1114111) (b : Bool) (hb : b = decide (t = w)) : Evt (fun k => (match_All.f k (wordN w).f0 (wordN w).f1 (wordN w).f2 (wordN w).f3 (wordN w).f4 t).bind fun t268 => (if (t268 == b) = true then ((match_All.f k (wordN w).f0 (wordN w).f1 (wordN w).f2 (wordN w).f3 (wordN w).f4 w).bind fun t269 => (if t269 = true then ((match_Null.f k (wordN w).f0 (wordN w).f1 (wordN w).f2 (wordN w).f3 (wordN w).f4).bind fun t270 => (some (t270 == ((w.length : Int) == 0)))) else (none))) else (none))) true := by
  obtain ⟨_, _, hv⟩ := word_facts w.length w rfl h hw
  refine Evt.bind (all_ev (wordN w) t hv (by omega)) ?_
  rw [word_allB h hw, hb]
  simp only [beq_self_eq_true, if_true]
  refine Evt.bind (all_ev (wordN w) w hv (by omega)) ?_
  rw [word_allB h hw, decide_eq_true rfl]
  simp only [if_true]
  refine Evt.bind (null_ev (wordN w) hv) ?_
  rw [word_allB h hw]
  refine (Evt.pure _).cast ?_
  by_cases hn : w = []
  · subst hn; rfl
  · have : ¬ w.length = 0 := fun e => hn (List.eq_nil_of_length_eq_zero e)
    rw [decide_eq_false (fun e => hn e.symm), beq_eq_false_iff_ne.2 (by omega : (w.length : Int) ≠ 0)]
    rfl
theorem word_l1_no (h : w.length ≤ 20) (ht : t.length ≤ 20) (hw : ∀ c ∈ w, 0 ≤ c ∧ c ≤ 1114111) (i : Int) (hne : t ≠ w) : Evt (fun k => hornbooklaw8_MatchWord.l1 k w t false i (wordN w).f0 (wordN w).f1 (wordN w).f2 (wordN w).f3 (wordN w).f4) true := by
  refine Evt.succ (fun k => hornbooklaw8_MatchWord.l1.eq_2 _ _ _ _ _ _ _ _ _ _) ?_
  simp only [Bool.false_eq_true, if_false]
  exact word_end h ht hw false (decide_eq_false hne).symm
theorem word_l1 (h : w.length ≤ 20) (ht : t.length ≤ 20) (hw : ∀ c ∈ w, 0 ≤ c ∧ c ≤ 1114111) : ∀ (s1 s2 pre : List Int), w = pre ++ s1 → t = pre ++ s2 → s1.length = s2.length → Evt (fun k => hornbooklaw8_MatchWord.l1 k w t true (pre.length : Int) (wordN w).f0 (wordN w).f1 (wordN w).f2 (wordN w).f3 (wordN w).f4) true
  | [], s2, pre, e1, e2, hl => by
    obtain rfl : s2 = [] := List.eq_nil_of_length_eq_zero (by simpa using hl.symm)
    refine Evt.succ (fun k => hornbooklaw8_MatchWord.l1.eq_2 _ _ _ _ _ _ _ _ _ _) ?_
    have hn : ¬ ((pre.length : Int) < (w.length : Int)) := by rw [e1]; simp
    simp only [if_true, if_neg hn]
    exact word_end h ht hw true (decide_eq_true (by rw [e1, e2])).symm
  | c :: s1, [], pre, e1, e2, hl => by simp at hl
  | c :: s1, d :: s2, pre, e1, e2, hl => by
    have hl' : s1.length = s2.length := by simpa using hl
    have hp : pre.length + (s1.length + 1) = w.length := by rw [e1]; simp
    refine Evt.succ (fun k => hornbooklaw8_MatchWord.l1.eq_2 _ _ _ _ _ _ _ _ _ _) ?_
    have h1 : (pre.length : Int) < (w.length : Int) := by omega
    have h2 : (pre.length : Int) < (t.length : Int) := by rw [e2]; simp; omega
    have r1 : rd w (pre.length : Int) = c := by rw [e1]; exact rd_at pre c s1
    have r2 : rd t (pre.length : Int) = d := by rw [e2]; exact rd_at pre d s2
    have e3 : wrap64 ((pre.length : Int) + 1) = ((pre ++ [c]).length : Int) := by rw [w64 _ (by omega)]; simp
    simp only [if_true, if_pos h1, if_pos h2, if_pos (Int.natCast_nonneg pre.length), r1, r2, e3]
    by_cases hcd : c = d
    · subst hcd
      simp only [beq_self_eq_true]
      exact word_l1 h ht hw s1 s2 (pre ++ [c]) (by rw [e1]; simp) (by rw [e2]; simp) hl'
    · rw [beq_eq_false_iff_ne.2 hcd]
      refine word_l1_no h ht hw _ (fun e => hcd ?_)
      rw [e1, e2] at e
      have := List.append_cancel_left e
      cases this; rfl
theorem word_l0 (h : w.length ≤ 20) (ht : t.length ≤ 20) : ∀ (suf pre : List Int), w = pre ++ suf → (∀ c ∈ pre, 0 ≤ c ∧ c ≤ 1114111) → Evt (fun k => hornbooklaw8_MatchWord.l0 k w t (pre.length : Int) (wordN pre).f0 (wordN pre).f1 (wordN pre).f2 (wordN pre).f3 (wordN pre).f4) true
  | [], pre, e1, hp => by
    rw [List.append_nil] at e1
    subst e1
    refine Evt.succ (fun k => hornbooklaw8_MatchWord.l0.eq_2 _ _ _ _ _ _ _ _ _) ?_
    simp only [Int.lt_irrefl, if_false]
    by_cases hl : w.length = t.length
    · rw [beq_iff_eq.2 (by omega : (w.length : Int) = (t.length : Int))]
      exact word_l1 h ht hp w t [] rfl rfl hl
    · rw [beq_eq_false_iff_ne.2 (by omega : (w.length : Int) ≠ (t.length : Int))]
      exact word_l1_no h ht hp 0 (fun e => hl (by rw [e]))
  | c :: suf, pre, e1, hp => by
    have hlen : pre.length + (suf.length + 1) = w.length := by rw [e1]; simp
    have h1 : (pre.length : Int) < (w.length : Int) := by omega
    have r1 : rd w (pre.length : Int) = c := by rw [e1]; exact rd_at pre c suf
    have e3 : wrap64 ((pre.length : Int) + 1) = ((pre ++ [c]).length : Int) := by rw [w64 _ (by omega)]; simp
    refine Evt.succ (fun k => hornbooklaw8_MatchWord.l0.eq_2 _ _ _ _ _ _ _ _ _) ?_
    simp only [if_pos h1, if_pos (Int.natCast_nonneg pre.length), r1, e3]
    by_cases h0 : c < 0
    · simp only [if_pos h0]; exact Evt.pure _
    · by_cases hM : c > 1114111
      · simp only [if_neg h0, if_pos hM]; exact Evt.pure _
      · simp only [if_neg h0, if_neg hM, hornbooklaw8_two.f, Option.bind_some]
        have ih := word_l0 h ht suf (pre ++ [c]) (by rw [e1]; simp) (fun d hd => by
          rcases List.mem_append.1 hd with hd | hd
          · exact hp d hd
          · obtain rfl : d = c := by simpa using hd
            omega)
        rw [wordN_snoc] at ih
        generalize wordN pre = E at ih ⊢
        cases E
        exact ih
end
theorem MatchWord : hornbooklaw8_MatchWord.Pure := by
  intro l0 l1 _ _ _ _ _ _
  refine Evt.get (f := fun k => hornbooklaw8_MatchWord.f k l0 l1) ?_
  unfold hornbooklaw8_MatchWord.f
  simp only [hornbooklaw8_known.f, Option.bind_some]
  simp only [if_true]
  by_cases h0 : (l0.length : Int) > 20
  · simp only [if_pos h0]
    exact Evt.succ (g := fun _ => some true) (fun k => by simp [hornbooklaw8_MatchWord.j0]) (Evt.pure _)
  · simp only [if_neg h0]
    by_cases h1 : (l1.length : Int) > 20
    · rw [decide_eq_true h1]
      exact Evt.succ (g := fun _ => some true) (fun k => by simp [hornbooklaw8_MatchWord.j0]) (Evt.pure _)
    · rw [decide_eq_false h1]
      refine Evt.succ (g := fun k => hornbooklaw8_MatchWord.l0 k l0 l1 0 3 0 [] ⟨#[]⟩ []) (fun k => by simp [hornbooklaw8_MatchWord.j0]) ?_
      exact word_l0 (by omega) (by omega) l0 [] rfl (fun c hc => by cases hc)
end Go.Proofs.YtfinjenkgpndlaaGreatDoor.Pure

namespace Go.Proofs.YtfinjenkgpndlaaGreatDoor.matchWord
open Go.ChangeShapes Go.WideShapes Go.ChangeAt Go.RowKit
open Go.ChangeMaps (open_string shut_string)
set_option linter.unusedVariables false
theorem own : ownKnob Tryz.prog.godebug = none := by kernel_rfl
theorem laidOut : laidOutB Tryz.prog = true := by kernel_rfl
def IsRow (k : IntKind) (w : World) (a : Option Addr) (len cap : Nat) (zs : List Int) : Prop :=
  (a = none ∧ len = 0 ∧ cap = 0 ∧ zs = []) ∨
  ∃ x, a = some x ∧ len ≤ cap ∧ cap ≤ maxLen ∧ zs.length = cap ∧ (∀ i, i < zs.length → w.cell? (x.add i) = some (.int k (zs.getD i 0))) ∧ ∀ n ∈ zs, (Lit.int k n).wf = true
set_option maxRecDepth 100000 in
theorem lifted (os : Os) (started : os.Started) (H : Type) (enc : TypeId × Value → H) :
    ReturnsInHanded {} Tryz.checked os 9 .any (fun w args => (Rows.matchWordSpec.pre enc Tryz.prog Tryz.f9 Rows.matchWordRow.domain false w args ∧ laidMetH Tryz.prog Rows.matchWordRow.laid w) ∧ sizedMet enc Tryz.prog Tryz.f9 (OpenSpec.ofChange Rows.matchWordSpec) false w args) (Rows.matchWordSpec.post enc Tryz.prog Tryz.f9 false true false false) := by
  refine returnsInHanded_of_change_and (C := Tryz.checked) (X := fun w _ => laidMetH Tryz.prog Rows.matchWordRow.laid w) (fun _ _ _ hh h => h.of_heap hh) own started (by kernel_rfl) Tryz.func9
    (ChangeSpec.witness_shaped (enc := enc) (C := Tryz.checked) (os := os) (X := fun w _ => laidMetH Tryz.prog Rows.matchWordRow.laid w) false (World.laidAll Tryz.prog os Rows.matchWordRow.laid) #[.slice none 0 0, .slice none 0 0] 8 (World.laidAll_os _ _ _)
      (World.shaped_of_ZipB (by kernel_rfl) (by kernel_rfl)) (by kernel_rfl) (by kernel_rfl) (by kernel_rfl)
      (by rw [MakeChecks.laidMetH_plain _ _ _ (by kernel_rfl)]; exact laidMet_laidAll _ (by kernel_rfl) (by kernel_rfl))) ?_
  intro W base args ds gs before hval0 hW hcnd hsz0 hL_ _
  clear hL_
  have hsz : (DataW.weightsEach Tryz.prog (Tryz.f9.params.toList ++ Rows.matchWordSpec.plain.varTypes Tryz.prog) (ds ++ gs)).all (· ≤ reachBytes) = true := hsz0
  have hval : ∀ (j : Nat) t v, Tryz.f9.params[j]? = some t → args[j]? = some v → Value.okWide Tryz.prog W .any base t v := hval0
  have hW' := hW
  obtain ⟨p, q, hA0, hV, rfl, hfz, hnd⟩ := hW
  have hA : DataW.TrodAll enc Tryz.prog W 0 (fun _ => true) true Tryz.f9.params.toList args.toList ds p := hA0
  rw [Tryz.params9] at hA hval hsz
  obtain ⟨v0, vs0, d0, ds0, p0, q0, hargs, rfl, rfl, h0, r0⟩ := trodAll_cons hA
  obtain ⟨v1, vs1, d1, ds1, p1, q1, rfl, rfl, rfl, h1, r1⟩ := trodAll_cons r0
  obtain ⟨rfl, rfl, rfl⟩ := trodAll_nil r1
  obtain rfl : args = #[v0, v1] := by cases args; simp_all
  obtain ⟨rfl, rfl⟩ := trodVars_none hV
  obtain ⟨a0, len0, cap0, rfl⟩ := okWide_slice Tryz.underlying43 (hval 0 43 v0 rfl rfl)
  have k0 := h0
  have lt0 : ∀ x ∈ p0, x.block < W.heap.size := by obtain ⟨m, hm⟩ := k0; exact DataW.trod_lt m _ _ _ hm
  obtain ⟨z0, w0⟩ : ∃ zs, IsRow .i32 W a0 len0 cap0 zs := by
    obtain ⟨fuel, hf⟩ := h0
    rcases open_ints Tryz.underlying43 Tryz.underlying21 (by kernel_rfl) hf with ⟨hcs, _⟩ | ⟨x, l, c, zs, hcs, _, hl, hm, hz, _, hcell, hwz⟩
    · simp [Value.cells] at hcs
      obtain ⟨rfl, rfl, rfl⟩ := hcs
      exact ⟨[], .inl ⟨rfl, rfl, rfl, rfl⟩⟩
    · simp [Value.cells] at hcs
      obtain ⟨rfl, rfl, rfl⟩ := hcs
      exact ⟨zs, .inr ⟨_, rfl, hl, hm, by simpa using hz, hcell, hwz⟩⟩
  have y0 : len0 * 4 ≤ 140737488351232 := Go.Proofs.YtfinjenkgpndlaaGreatDoorW.PrintWords.sized_ints hsz (j := 0) (t := 43) rfl rfl Tryz.underlying43 Tryz.underlying21 (by kernel_rfl) (by kernel_rfl) h0
  obtain ⟨a1, len1, cap1, rfl⟩ := okWide_slice Tryz.underlying43 (hval 1 43 v1 rfl rfl)
  have k1 := h1
  have lt1 : ∀ x ∈ p1, x.block < W.heap.size := by obtain ⟨m, hm⟩ := k1; exact DataW.trod_lt m _ _ _ hm
  obtain ⟨z1, w1⟩ : ∃ zs, IsRow .i32 W a1 len1 cap1 zs := by
    obtain ⟨fuel, hf⟩ := h1
    rcases open_ints Tryz.underlying43 Tryz.underlying21 (by kernel_rfl) hf with ⟨hcs, _⟩ | ⟨x, l, c, zs, hcs, _, hl, hm, hz, _, hcell, hwz⟩
    · simp [Value.cells] at hcs
      obtain ⟨rfl, rfl, rfl⟩ := hcs
      exact ⟨[], .inl ⟨rfl, rfl, rfl, rfl⟩⟩
    · simp [Value.cells] at hcs
      obtain ⟨rfl, rfl, rfl⟩ := hcs
      exact ⟨zs, .inr ⟨_, rfl, hl, hm, by simpa using hz, hcell, hwz⟩⟩
  have y1 : len1 * 4 ≤ 140737488351232 := Go.Proofs.YtfinjenkgpndlaaGreatDoorW.PrintWords.sized_ints hsz (j := 1) (t := 43) rfl rfl Tryz.underlying43 Tryz.underlying21 (by kernel_rfl) (by kernel_rfl) h1
  clear hA0 hval0 hsz0 hsz
  refine (PA.hornbooklaw8_MatchWord.walk Pure.MatchWord a0 len0 cap0 z0 a1 len1 cap1 z1 W w0 y0 w1 y1).mono fun e W' ⟨he, bel⟩ => ?_
  subst he
  exact ⟨_, rfl, _, _, _, [], _, [], hW', trodAll_mk1 (shut_bool Tryz.underlying4 _), (trodAll_cons_mk (Below.trod laidOut (by kernel_rfl) (of_decide_eq_true (by kernel_rfl)) k0 bel lt0) (trodAll_cons_mk (Below.trod laidOut (by kernel_rfl) (of_decide_eq_true (by kernel_rfl)) k1 bel lt1) trodAll_mk0)), rfl, bel.frame _, fun h => by cases h⟩
theorem over : Rows.matchWordRow.holds Tryz.pinned (OpenSpec.ofChange Rows.matchWordSpec) :=
  OpenClaim.holds_of_wide 9 Tryz.f9 rfl rfl rfl rfl rfl rfl rfl ⟨rfl, rfl, rfl, rfl, rfl⟩ rfl rfl rfl rfl rfl (by kernel_rfl) Tryz.func9 (by kernel_rfl)
    (of_decide_eq_true (by kernel_rfl)) (by unfold Func.isWrapper; first | (rw [if_pos (by decide +kernel)]; kernel_rfl) | (rw [if_neg (by decide +kernel)]; exact ⟨rfl, rfl⟩))
    (fun os started H enc _ => lifted os started H enc)
theorem proved : Rows.MatchWordSaid := over
end Go.Proofs.YtfinjenkgpndlaaGreatDoor.matchWord
namespace Go.Proofs.YtfinjenkgpndlaaGreatDoor
set_option maxRecDepth 100000 in
theorem matchWord_holds : Rows.MatchWordCardSaid :=
  Claim7.holds_tied_plain_at .later [] [.data, .data, .data, .data, .sentinel, .sentinel, .pinned] true (true, "d0643b50c6f70ee4067ea65590d0e76d88c43e67e3139f8b89f1bea3e54ebcbf") true matchWord.proved (fun _ h => by cases h) (by kernel_rfl) (fun _ h => by cases h) matchWord_row_tie rfl ⟨rfl, rfl⟩ (by kernel_rfl) rfl
    (fun f fn hf hfn => by
      obtain rfl : f = 9 := Option.some.inj ((show Tryz.prog.funcNamed "hornbook/hornbooklaw8.MatchWord" = some 9 by kernel_rfl).symm.trans hf) |>.symm
      obtain rfl : fn = Tryz.f9 := (Option.some.inj (Tryz.func9.symm.trans hfn)).symm
      exact ⟨by kernel_rfl, fun j t ht => by
        rw [Tryz.params9] at ht
        have hm : t ∈ [43, 43] := by simpa using Array.mem_of_getElem? ht
        have hall : ([43, 43].all fun u => !Tryz.prog.wantsStandIn u) = true := by kernel_rfl
        exact (show Tryz.prog.wantsStandIn t = false by simpa using List.all_eq_true.1 hall t hm)⟩)
    (by kernel_rfl)
end Go.Proofs.YtfinjenkgpndlaaGreatDoor

