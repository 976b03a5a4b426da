-- Printed for this claim by gp.py (a program of this session's over the kit's print).
import Derived.Test.YtnfnnmmblommiaaPAx0
import Derived.Test.YtnfnnmmblommiaaPAx1
import Derived.Test.YtnfnnmmblommiaaPAx2
import Derived.Test.YtnfnnmmblommiaaPAx3
namespace Go.Proofs.Ytnfnnmmblommiaa.PA
open Go.RowKit Go.Proofs.YtnfnnmmblommiaaW.PrintWords Go.Proofs.YtnfnnmmblommiaaW.PrintLast Go.Proofs.YtnfnnmmblommiaaW.PrintMore
attribute [local go_sem] max2_int min2_int max_two min_two max_three min_three max_four min_four   -- for this text's walks alone
set_option linter.unusedVariables false
set_option linter.unusedSimpArgs false

attribute [local go_sem high] eqA41
/-! ### hornbookref3_letters: function 41 -/
def hornbookref3_letters.f  : Option ((List (S41))) := (hornbookref3_upper.f).bind fun t242 => ((hornbookref3_lower.f).bind fun t245 => (if t242.length + t245.length < 17592186044416 then ((some (t242 ++ t245 : List (S41))).bind fun y248 => ((some (([(⟨880, 1023⟩ : S41), (⟨1024, 1327⟩ : S41)] : List (S41)) : List (S41))).bind fun y251 => (if y248.length + y251.length < 17592186044416 then (some (y248 ++ y251)) else (none)))) else (none)))
set_option maxHeartbeats 8000000 in
set_option maxRecDepth 100000 in
theorem hornbookref3_letters.calls  (r : List (S41)) (w : World) (h : hornbookref3_letters.f  = some r) :
  Calls Try.prog 41 #[] w fun e w' => ∃ v0_ : Value, e = .returned (v0_) ∧ Kd.R k41 41 w' w.heap.size (fun _ => True) v0_ r ∧ Below w.heap.size w w' := by
 have hu41 := Try.underlying41
 have HB := Aside0.mk (Below.refl w.heap.size w)
 have H : ((hornbookref3_upper.f).bind fun t242 => ((hornbookref3_lower.f).bind fun t245 => (if t242.length + t245.length < 17592186044416 then ((some (t242 ++ t245 : List (S41))).bind fun y248 => ((some (([(⟨880, 1023⟩ : S41), (⟨1024, 1327⟩ : S41)] : List (S41)) : List (S41))).bind fun y251 => (if y248.length + y251.length < 17592186044416 then (some (y248 ++ y251)) else (none)))) else (none)))) = some r := h
 clear h
 replace H := Option.bind_eq_some_iff.mp H
 obtain ⟨t242, A10, H⟩ := H
 replace H : ((hornbookref3_lower.f).bind fun t245 => (if t242.length + t245.length < 17592186044416 then ((some (t242 ++ t245 : List (S41))).bind fun y248 => ((some (([(⟨880, 1023⟩ : S41), (⟨1024, 1327⟩ : S41)] : List (S41)) : List (S41))).bind fun y251 => (if y248.length + y251.length < 17592186044416 then (some (y248 ++ y251)) else (none)))) else (none))) = some r := H
 have A1 := Aside0.mk A10
 clear A10
 replace H := Option.bind_eq_some_iff.mp H
 obtain ⟨t245, A20, H⟩ := H
 replace H : (if t242.length + t245.length < 17592186044416 then ((some (t242 ++ t245 : List (S41))).bind fun y248 => ((some (([(⟨880, 1023⟩ : S41), (⟨1024, 1327⟩ : S41)] : List (S41)) : List (S41))).bind fun y251 => (if y248.length + y251.length < 17592186044416 then (some (y248 ++ y251)) else (none)))) else (none)) = some r := H
 have A2 := Aside0.mk A20
 clear A20
 by_cases c3 : t242.length + t245.length < 17592186044416
 ·rw [if_pos c3] at H
  have LMc3 := Aside0.mk c3
  clear c3
  obtain ⟨y248, hy248⟩ : ∃ y_ : List (S41), y_ = (t242 ++ t245) := ⟨_, rfl⟩
  replace H : ((some (([(⟨880, 1023⟩ : S41), (⟨1024, 1327⟩ : S41)] : List (S41)) : List (S41))).bind fun y251 => (if y248.length + y251.length < 17592186044416 then (some (y248 ++ y251)) else (none))) = some r := by first | (rw [hy248]; with_reducible exact H) | (have H2_ := (Option.bind_some _ _).symm.trans H; rw [hy248]; with_reducible exact H2_) | (have H2_ := (Option.bind_some _ _).symm.trans H; with_reducible exact H2_) | with_reducible exact H | (rw [hy248]; exact H) | exact H
  have Ny248 := Aside0.mk hy248
  clear hy248
  obtain ⟨y251, hy251⟩ : ∃ y_ : List (S41), y_ = (([(⟨880, 1023⟩ : S41), (⟨1024, 1327⟩ : S41)] : List (S41))) := ⟨_, rfl⟩
  replace H : (if y248.length + y251.length < 17592186044416 then (some (y248 ++ y251)) else (none)) = some r := by first | (rw [hy251]; with_reducible exact H) | (have H2_ := (Option.bind_some _ _).symm.trans H; rw [hy251]; with_reducible exact H2_) | (have H2_ := (Option.bind_some _ _).symm.trans H; with_reducible exact H2_) | with_reducible exact H | (rw [hy251]; exact H) | exact H
  have Ny251 := Aside0.mk hy251
  clear hy251
  by_cases c4 : y248.length + y251.length < 17592186044416
  ·rw [if_pos c4] at H
   have LMc4 := Aside0.mk c4
   clear c4
   obtain ⟨y254, hy254⟩ : ∃ y_ : List (S41), y_ = (y248 ++ y251) := ⟨_, rfl⟩
   replace H : (some y254) = some r := by first | (rw [hy254]; with_reducible exact H) | (have H2_ := (Option.bind_some _ _).symm.trans H; rw [hy254]; with_reducible exact H2_) | (have H2_ := (Option.bind_some _ _).symm.trans H; with_reducible exact H2_) | with_reducible exact H | (rw [hy254]; exact H) | exact H
   have Ny254 := Aside0.mk hy254
   clear hy254
   obtain rfl := Option.some.inj H
   go_enter Try.func41, Try.ntmps41
   go_wp2_with (first | ((with_reducible refine gate_callee (f := 38) rfl ?_); refine goesL_ (some 1) rfl rfl Try.func38 (by kernel_rfl) rfl #[] rfl (by (try simp only [List.map_toArray, List.map_cons, List.map_nil]); first | done | rfl | (simp only [List.length_drop, List.length_take]; rfl)) ?_; (with_reducible refine (hornbookref3_upper.calls  t242 _ A1.out).mono ?_); rintro e w5 ⟨v243, rfl, ho0, hb⟩; refine ⟨_, rfl, ?_⟩; have n0_ := Aside0.mk (Kd.R_lower ho0 (below_size (by repeat (first | (with_reducible first | exact HB.out | apply below_alloc | apply pw_below_drewN | apply below_drew1) | exact HB.out)))); have n1_ := Aside0.mk (below_step (by repeat (first | (with_reducible first | exact HB.out | apply below_alloc | apply pw_below_drewN | apply below_drew1) | exact HB.out)) hb); clear HB; have HO244 := n0_; have HB := n1_; clear n0_ n1_; (try clear hb); (try clear hb2); (try clear hk); (try clear hi); (try clear ho0)) | ((with_reducible refine gate_callee (f := 39) rfl ?_); refine goesL_ (some 2) rfl rfl Try.func39 (by kernel_rfl) rfl #[] rfl (by (try simp only [List.map_toArray, List.map_cons, List.map_nil]); first | done | rfl | (simp only [List.length_drop, List.length_take]; rfl)) ?_; (with_reducible refine (hornbookref3_lower.calls  t245 _ A2.out).mono ?_); rintro e w6 ⟨v246, rfl, ho0, hb⟩; refine ⟨_, rfl, ?_⟩; have n0_ := Aside0.mk (Kd.R_elder' (by (with_reducible repeat (first | apply Kd.R_alloc | apply Kd.R_drewN | apply Kd.R_drew)); exact HO244.out) (Kd.R_base ho0) hb); have n1_ := Aside0.mk (Kd.R_lower (Kd.R_new' ho0 (Kd.R_lt (by (with_reducible repeat (first | apply Kd.R_alloc | apply Kd.R_drewN | apply Kd.R_drew)); exact HO244.out))) (below_size (by repeat (first | (with_reducible first | exact HB.out | apply below_alloc | apply pw_below_drewN | apply below_drew1) | exact HB.out)))); have n2_ := Aside0.mk (below_step (by repeat (first | (with_reducible first | exact HB.out | apply below_alloc | apply pw_below_drewN | apply below_drew1) | exact HB.out)) hb); clear HO244; clear HB; have HO244 := n0_; have HO247 := n1_; have HB := n2_; clear n0_ n1_ n2_; (try clear hb); (try clear hb2); (try clear hk); (try clear hi); (try clear ho0); obtain ⟨Ao8, co8, eo8⟩ := Kd.R_slice HO247.out; subst eo8) | ((with_reducible refine gate_builtin (b := .append) (xs := #[.tmp 1, .tmp 2]) rfl ?_); at_builtin; refine Kd.R_append_rows k41 (w0 := w) w.heap.size rfl (.tmp 1) (.tmp 2) 26 41 (.agg #[(.int .i32 0), (.int .i32 0)]) 8 rfl Try.underlying26 info41 rfl (by decide) (by omega) v243 t242 t245 _ _ _ (fun k_ => some k_ ≠ (.slice Ao8 t245.length co8 : Value).ownBlock) (fun _ => False) rfl rfl ?aO ?aR (fun _ _ h => h) (fun _ h => h.elim) ?aF ?aB ?aS ?aL ?_; (case aR => repeat (first | exact (Kd.R_reads' HO247.out).2.2 | (with_reducible refine Kd.C_alloc ?_ _) | (with_reducible refine Kd.C_drewN ?_ _) | (with_reducible refine Kd.C_drew ?_))); (case aB => exact (by repeat (first | (with_reducible first | exact HB.out | apply below_alloc | apply pw_below_drewN | apply below_drew1) | exact HB.out))); (case aF => exact (fun k_ hk => Kd.fresh' (Kd.R_lt (by (with_reducible repeat (first | apply Kd.R_alloc | apply Kd.R_drewN | apply Kd.R_drew)); exact HO247.out)) k_ hk)); (case aO => exact (by (with_reducible repeat (first | apply Kd.R_alloc | apply Kd.R_drewN | apply Kd.R_drew)); exact Kd.R_mono HO244.out (fun _ hk => hk.2))); (case aS => exact (below_size (by repeat (first | (with_reducible first | exact HB.out | apply below_alloc | apply pw_below_drewN | apply below_drew1) | exact HB.out)))); (case aL => have := LMc3.out; omega); intro v249 w7 ho hb hg hat; rw [← Ny248.out] at ho; have n0_ := Aside0.mk (Kd.R_after (ok := (fun _ => True)) (by (with_reducible repeat (first | apply Kd.R_alloc | apply Kd.R_drewN | apply Kd.R_drew)); exact HO247.out) hg hat); have n1_ := Aside0.mk (hb); have n2_ := Aside0.mk (ho); clear HO247; clear HB; clear HO244; have HO247 := n0_; have HB := n1_; have HO250 := n2_; clear n0_ n1_ n2_; clear ho hb hg hat) | ((with_reducible refine gate_dst (N := 6) rfl ?_); refine Kd.R_lit k41 _ 41 ?hg (N := 6) ?hd (xs := ([(⟨880, 1023⟩ : S41), (⟨1024, 1327⟩ : S41)] : List (S41))) (inner := [.int .i32 880, .int .i32 1023, .int .i32 1024, .int .i32 1327]) (ok := fun _ => True) (okp := fun _ => True) ?hr ?hp (fun _ hk => hk) trivial (Below.refl _ _) (Nat.le_refl _) (by simp) ?_; (case hd => rfl); (case hg => rfl); (case hr => first | (go_simp; done) | (go_simp; rfl)); (case hp => exact (Reps.c2 (show Kd.M k41 _ _ _ (⟨880, 1023⟩ : S41) [.int .i32 880, .int .i32 1023] from (k41_mkM _ _ _ (⟨880, 1023⟩ : S41) )) (Reps.c2 (show Kd.M k41 _ _ _ (⟨1024, 1327⟩ : S41) [.int .i32 1024, .int .i32 1327] from (k41_mkM _ _ _ (⟨1024, 1327⟩ : S41) )) (Reps.none _ _)))); intro v252 w9 ho10 hb hg_ hnew_; clear hg_ hnew_; (first | rw [← Ny251.out] at ho10 | (simp only [Int.reduceToNat] at ho10; rw [← Ny251.out] at ho10)); have n0_ := Aside0.mk (Kd.R_elder' (by (with_reducible repeat (first | apply Kd.R_alloc | apply Kd.R_drewN | apply Kd.R_drew)); exact HO247.out) (Kd.R_base ho10) hb); have n1_ := Aside0.mk (Kd.R_elder' (by (with_reducible repeat (first | apply Kd.R_alloc | apply Kd.R_drewN | apply Kd.R_drew)); exact HO250.out) (Kd.R_base ho10) hb); have n2_ := Aside0.mk (Kd.R_lower (Kd.R_new' (Kd.R_new' ho10 (Kd.R_lt (by (with_reducible repeat (first | apply Kd.R_alloc | apply Kd.R_drewN | apply Kd.R_drew)); exact HO247.out))) (Kd.R_lt (by (with_reducible repeat (first | apply Kd.R_alloc | apply Kd.R_drewN | apply Kd.R_drew)); exact HO250.out))) (below_size (by repeat (first | (with_reducible first | exact HB.out | apply below_alloc | apply pw_below_drewN | apply below_drew1) | exact HB.out)))); have n3_ := Aside0.mk (below_step (by repeat (first | (with_reducible first | exact HB.out | apply below_alloc | apply pw_below_drewN | apply below_drew1) | exact HB.out)) hb); clear HO247; clear HO250; clear HB; have HO247 := n0_; have HO250 := n1_; have HO253 := n2_; have HB := n3_; clear n0_ n1_ n2_ n3_; clear hb ho10; obtain ⟨Ao12, co12, eo12⟩ := Kd.R_slice HO253.out; subst eo12) | ((with_reducible refine gate_builtin (b := .append) (xs := #[.tmp 3, .tmp 6]) rfl ?_); at_builtin; refine Kd.R_append_rows k41 (w0 := w) w.heap.size rfl (.tmp 3) (.tmp 6) 26 41 (.agg #[(.int .i32 0), (.int .i32 0)]) 8 rfl Try.underlying26 info41 rfl (by decide) (by omega) v249 y248 y251 _ _ _ (fun k_ => some k_ ≠ (.slice Ao8 t245.length co8 : Value).ownBlock ∧ some k_ ≠ (.slice Ao12 y251.length co12 : Value).ownBlock) (fun _ => False) rfl rfl ?aO ?aR (fun _ _ h => h) (fun _ h => h.elim) ?aF ?aB ?aS ?aL ?_; (case aR => repeat (first | exact (Kd.R_reads' HO253.out).2.2 | (with_reducible refine Kd.C_alloc ?_ _) | (with_reducible refine Kd.C_drewN ?_ _) | (with_reducible refine Kd.C_drew ?_))); (case aB => exact (by repeat (first | (with_reducible first | exact HB.out | apply below_alloc | apply pw_below_drewN | apply below_drew1) | exact HB.out))); (case aF => exact (fun k_ hk => ⟨Kd.fresh' (Kd.R_lt (by (with_reducible repeat (first | apply Kd.R_alloc | apply Kd.R_drewN | apply Kd.R_drew)); exact HO247.out)) k_ hk, Kd.fresh' (Kd.R_lt (by (with_reducible repeat (first | apply Kd.R_alloc | apply Kd.R_drewN | apply Kd.R_drew)); exact HO253.out)) k_ hk⟩)); (case aO => exact (by (with_reducible repeat (first | apply Kd.R_alloc | apply Kd.R_drewN | apply Kd.R_drew)); exact HO250.out)); (case aS => exact (below_size (by repeat (first | (with_reducible first | exact HB.out | apply below_alloc | apply pw_below_drewN | apply below_drew1) | exact HB.out)))); (case aL => have := LMc4.out; omega); intro v255 w11 ho hb hg hat; rw [← Ny254.out] at ho; have n0_ := Aside0.mk (Kd.R_after (ok := (fun k_ => some k_ ≠ (.slice Ao12 y251.length co12 : Value).ownBlock)) (by (with_reducible repeat (first | apply Kd.R_alloc | apply Kd.R_drewN | apply Kd.R_drew)); exact Kd.R_mono HO247.out (fun _ hk => ⟨hk.2, hk.1.2⟩)) hg hat); have n1_ := Aside0.mk (Kd.R_after (ok := (fun k_ => some k_ ≠ (.slice Ao8 t245.length co8 : Value).ownBlock)) (by (with_reducible repeat (first | apply Kd.R_alloc | apply Kd.R_drewN | apply Kd.R_drew)); exact Kd.R_mono HO253.out (fun _ hk => ⟨hk.1.2, hk.2⟩)) hg hat); have n2_ := Aside0.mk (hb); have n3_ := Aside0.mk (ho); clear HO247; clear HO253; clear HB; clear HO250; have HO247 := n0_; have HO253 := n1_; have HB := n2_; have HO256 := n3_; clear n0_ n1_ n2_ n3_; clear ho hb hg hat))
   go_ret
   exact ⟨_, by first | rfl | (simp [errW_none, errW_some] <;> rfl) | (simp [*, errW_none, errW_some] <;> rfl), by (with_reducible repeat (first | apply Kd.R_alloc | apply Kd.R_drewN | apply Kd.R_drew)); exact Kd.R_mono HO256.out (fun _ hk => trivial), by repeat (first | (with_reducible first | exact HB.out | apply below_alloc | apply pw_below_drewN | apply below_drew1) | exact HB.out)⟩
  ·rw [if_neg c4] at H
   exact absurd H (by simp)
 ·rw [if_neg c3] at H
  exact absurd H (by simp)

/-! ### hornbookref3_Prop: function 15 -/
def hornbookref3_Prop.f (k : Nat) (a0 : ByteArray) : Option ((List (S41)) × Bool) := if a0.toList = ([65, 110, 121] : List UInt8) then (some ((([(⟨0, 1114111⟩ : S41)] : List (S41))), true)) else (if a0.toList = ([68, 105, 103, 105, 116] : List UInt8) then (some ((([(⟨48, 57⟩ : S41), (⟨1632, 1641⟩ : S41)] : List (S41))), true)) else (if a0.toList = ([85, 112, 112, 101, 114] : List UInt8) then ((hornbookref3_upper.f).bind fun t263 => (some (t263, true))) else (if a0.toList = ([76, 111, 119, 101, 114] : List UInt8) then ((hornbookref3_lower.f).bind fun t266 => (some (t266, true))) else (if a0.toList = ([76, 101, 116, 116, 101, 114] : List UInt8) then ((hornbookref3_letters.f).bind fun t269 => ((hornbookref3_Of.f k t269).bind fun t272 => (some (t272, true)))) else (if a0.toList = ([83, 112, 97, 99, 101] : List UInt8) then (some ((([(⟨9, 13⟩ : S41), (⟨32, 32⟩ : S41), (⟨133, 133⟩ : S41), (⟨160, 160⟩ : S41), (⟨8192, 8202⟩ : S41), (⟨8232, 8233⟩ : S41), (⟨12288, 12288⟩ : S41)] : List (S41))), true)) else (if a0.toList = ([77, 97, 114, 107] : List UInt8) then (some ((([(⟨768, 879⟩ : S41), (⟨8205, 8205⟩ : S41), (⟨65024, 65039⟩ : S41)] : List (S41))), true)) else (if a0.toList = ([80, 117, 110, 99, 116] : List UInt8) then (some ((([(⟨33, 47⟩ : S41), (⟨58, 64⟩ : S41), (⟨91, 96⟩ : S41), (⟨123, 126⟩ : S41), (⟨8208, 8231⟩ : S41)] : List (S41))), true)) else (if a0.toList = ([72, 97, 110] : List UInt8) then (some ((([(⟨19968, 40959⟩ : S41)] : List (S41))), true)) else (if a0.toList = ([75, 97, 110, 97] : List UInt8) then (some ((([(⟨12352, 12543⟩ : S41)] : List (S41))), true)) else (if a0.toList = ([69, 109, 111, 106, 105] : List UInt8) then (some ((([(⟨127744, 129791⟩ : S41)] : List (S41))), true)) else (some (([] : List (S41)), false))))))))))))
theorem hornbookref3_Prop.mono : ∀ a0 k, LeO (hornbookref3_Prop.f k a0) (hornbookref3_Prop.f (k + 1) a0) := by
 intro a0 k
 unfold hornbookref3_Prop.f
 repeat' first
   | (with_reducible exact hornbookref3_Of.mono _ _)
   | (with_reducible exact LeO.refl _)
   | (with_reducible exact LeO.none _)
   | (with_reducible refine LeO.ite ?_ ?_)
   | (with_reducible refine LeO.bind ?_ (fun _ => ?_))
   | exact hornbookref3_Of.mono _ _
   | exact LeO.none _
   | refine LeO.ite ?_ ?_
   | refine LeO.bind ?_ (fun _ => ?_)
set_option maxHeartbeats 8000000 in
set_option maxRecDepth 100000 in
theorem hornbookref3_Prop.calls (k : Nat) (a0 : ByteArray) (r1 : List (S41)) (r2 : Bool) (w : World) (h : hornbookref3_Prop.f k a0 = some (r1, r2)) :
  Calls Try.prog 15 #[.string a0] w fun e w' => ∃ v0_ : Value, e = .returned (.tuple #[v0_, .bool r2]) ∧ Kd.R k41 41 w' w.heap.size (fun _ => True) v0_ r1 ∧ Below w.heap.size w w' := by
 have hu41 := Try.underlying41
 have HB := Aside0.mk (Below.refl w.heap.size w)
 have H : (if a0.toList = ([65, 110, 121] : List UInt8) then (some ((([(⟨0, 1114111⟩ : S41)] : List (S41))), true)) else (if a0.toList = ([68, 105, 103, 105, 116] : List UInt8) then (some ((([(⟨48, 57⟩ : S41), (⟨1632, 1641⟩ : S41)] : List (S41))), true)) else (if a0.toList = ([85, 112, 112, 101, 114] : List UInt8) then ((hornbookref3_upper.f).bind fun t263 => (some (t263, true))) else (if a0.toList = ([76, 111, 119, 101, 114] : List UInt8) then ((hornbookref3_lower.f).bind fun t266 => (some (t266, true))) else (if a0.toList = ([76, 101, 116, 116, 101, 114] : List UInt8) then ((hornbookref3_letters.f).bind fun t269 => ((hornbookref3_Of.f k t269).bind fun t272 => (some (t272, true)))) else (if a0.toList = ([83, 112, 97, 99, 101] : List UInt8) then (some ((([(⟨9, 13⟩ : S41), (⟨32, 32⟩ : S41), (⟨133, 133⟩ : S41), (⟨160, 160⟩ : S41), (⟨8192, 8202⟩ : S41), (⟨8232, 8233⟩ : S41), (⟨12288, 12288⟩ : S41)] : List (S41))), true)) else (if a0.toList = ([77, 97, 114, 107] : List UInt8) then (some ((([(⟨768, 879⟩ : S41), (⟨8205, 8205⟩ : S41), (⟨65024, 65039⟩ : S41)] : List (S41))), true)) else (if a0.toList = ([80, 117, 110, 99, 116] : List UInt8) then (some ((([(⟨33, 47⟩ : S41), (⟨58, 64⟩ : S41), (⟨91, 96⟩ : S41), (⟨123, 126⟩ : S41), (⟨8208, 8231⟩ : S41)] : List (S41))), true)) else (if a0.toList = ([72, 97, 110] : List UInt8) then (some ((([(⟨19968, 40959⟩ : S41)] : List (S41))), true)) else (if a0.toList = ([75, 97, 110, 97] : List UInt8) then (some ((([(⟨12352, 12543⟩ : S41)] : List (S41))), true)) else (if a0.toList = ([69, 109, 111, 106, 105] : List UInt8) then (some ((([(⟨127744, 129791⟩ : S41)] : List (S41))), true)) else (some (([] : List (S41)), false))))))))))))) = some (r1, r2) := h
 clear h
 by_cases c2 : a0.toList = ([65, 110, 121] : List UInt8)
 ·rw [if_pos c2] at H
  have c2b0 : (a0.toList == ([65, 110, 121] : List UInt8)) = true := beq_iff_eq.mpr c2
  have c2b1 : (a0.toList != ([65, 110, 121] : List UInt8)) = false := bne_eq_false_iff_eq.mpr c2
  clear c2
  obtain ⟨y257, hy257⟩ : ∃ y_ : List (S41), y_ = (([(⟨0, 1114111⟩ : S41)] : List (S41))) := ⟨_, rfl⟩
  replace H : (some (y257, true)) = some (r1, r2) := by first | (rw [hy257]; with_reducible exact H) | (have H2_ := (Option.bind_some _ _).symm.trans H; rw [hy257]; with_reducible exact H2_) | (have H2_ := (Option.bind_some _ _).symm.trans H; with_reducible exact H2_) | with_reducible exact H | (rw [hy257]; exact H) | exact H
  have Ny257 := Aside0.mk hy257
  clear hy257
  simp only [Option.some.injEq, Prod.mk.injEq] at H
  obtain ⟨rfl, rfl⟩ := H
  go_enter Try.func15, Try.ntmps15
  go_wp2_with (first | ((with_reducible refine gate_dst (N := 8) rfl ?_); refine Kd.R_lit k41 _ 41 ?hg (N := 8) ?hd (xs := ([(⟨0, 1114111⟩ : S41)] : List (S41))) (inner := [.int .i32 0, .int .i32 1114111]) (ok := fun _ => True) (okp := fun _ => True) ?hr ?hp (fun _ hk => hk) trivial (Below.refl _ _) (Nat.le_refl _) (by simp) ?_; (case hd => rfl); (case hg => rfl); (case hr => first | (go_simp; done) | (go_simp; rfl)); (case hp => exact (Reps.c2 (show Kd.M k41 _ _ _ (⟨0, 1114111⟩ : S41) [.int .i32 0, .int .i32 1114111] from (k41_mkM _ _ _ (⟨0, 1114111⟩ : S41) )) (Reps.none _ _))); intro v258 w3 ho4 hb hg_ hnew_; clear hg_ hnew_; (first | rw [← Ny257.out] at ho4 | (simp only [Int.reduceToNat] at ho4; rw [← Ny257.out] at ho4)); have n0_ := Aside0.mk (Kd.R_lower ho4 (below_size (by repeat (first | (with_reducible first | exact HB.out | apply below_alloc | apply pw_below_drewN | apply below_drew1) | exact HB.out)))); have n1_ := Aside0.mk (below_step (by repeat (first | (with_reducible first | exact HB.out | apply below_alloc | apply pw_below_drewN | apply below_drew1) | exact HB.out)) hb); clear HB; have HO259 := n0_; have HB := n1_; clear n0_ n1_; clear hb ho4))
  go_ret2
  exact ⟨_, by first | rfl | (simp [errW_none, errW_some] <;> rfl) | (simp [*, errW_none, errW_some] <;> rfl), by (with_reducible repeat (first | apply Kd.R_alloc | apply Kd.R_drewN | apply Kd.R_drew)); exact HO259.out, by repeat (first | (with_reducible first | exact HB.out | apply below_alloc | apply pw_below_drewN | apply below_drew1) | exact HB.out)⟩
 ·rw [if_neg c2] at H
  have c2b0 : (a0.toList == ([65, 110, 121] : List UInt8)) = false := beq_eq_false_iff_ne.mpr c2
  have c2b1 : (a0.toList != ([65, 110, 121] : List UInt8)) = true := bne_iff_ne.mpr c2
  by_cases c5 : a0.toList = ([68, 105, 103, 105, 116] : List UInt8)
  ·rw [if_pos c5] at H
   have c5b0 : (a0.toList == ([68, 105, 103, 105, 116] : List UInt8)) = true := beq_iff_eq.mpr c5
   have c5b1 : (a0.toList != ([68, 105, 103, 105, 116] : List UInt8)) = false := bne_eq_false_iff_eq.mpr c5
   clear c5
   obtain ⟨y260, hy260⟩ : ∃ y_ : List (S41), y_ = (([(⟨48, 57⟩ : S41), (⟨1632, 1641⟩ : S41)] : List (S41))) := ⟨_, rfl⟩
   replace H : (some (y260, true)) = some (r1, r2) := by first | (rw [hy260]; with_reducible exact H) | (have H2_ := (Option.bind_some _ _).symm.trans H; rw [hy260]; with_reducible exact H2_) | (have H2_ := (Option.bind_some _ _).symm.trans H; with_reducible exact H2_) | with_reducible exact H | (rw [hy260]; exact H) | exact H
   have Ny260 := Aside0.mk hy260
   clear hy260
   simp only [Option.some.injEq, Prod.mk.injEq] at H
   obtain ⟨rfl, rfl⟩ := H
   go_enter Try.func15, Try.ntmps15
   go_wp2_with (first | ((with_reducible refine gate_dst (N := 13) rfl ?_); refine Kd.R_lit k41 _ 41 ?hg (N := 13) ?hd (xs := ([(⟨48, 57⟩ : S41), (⟨1632, 1641⟩ : S41)] : List (S41))) (inner := [.int .i32 48, .int .i32 57, .int .i32 1632, .int .i32 1641]) (ok := fun _ => True) (okp := fun _ => True) ?hr ?hp (fun _ hk => hk) trivial (Below.refl _ _) (Nat.le_refl _) (by simp) ?_; (case hd => rfl); (case hg => rfl); (case hr => first | (go_simp; done) | (go_simp; rfl)); (case hp => exact (Reps.c2 (show Kd.M k41 _ _ _ (⟨48, 57⟩ : S41) [.int .i32 48, .int .i32 57] from (k41_mkM _ _ _ (⟨48, 57⟩ : S41) )) (Reps.c2 (show Kd.M k41 _ _ _ (⟨1632, 1641⟩ : S41) [.int .i32 1632, .int .i32 1641] from (k41_mkM _ _ _ (⟨1632, 1641⟩ : S41) )) (Reps.none _ _)))); intro v261 w6 ho7 hb hg_ hnew_; clear hg_ hnew_; (first | rw [← Ny260.out] at ho7 | (simp only [Int.reduceToNat] at ho7; rw [← Ny260.out] at ho7)); have n0_ := Aside0.mk (Kd.R_lower ho7 (below_size (by repeat (first | (with_reducible first | exact HB.out | apply below_alloc | apply pw_below_drewN | apply below_drew1) | exact HB.out)))); have n1_ := Aside0.mk (below_step (by repeat (first | (with_reducible first | exact HB.out | apply below_alloc | apply pw_below_drewN | apply below_drew1) | exact HB.out)) hb); clear HB; have HO262 := n0_; have HB := n1_; clear n0_ n1_; clear hb ho7))
   go_ret2
   exact ⟨_, by first | rfl | (simp [errW_none, errW_some] <;> rfl) | (simp [*, errW_none, errW_some] <;> rfl), by (with_reducible repeat (first | apply Kd.R_alloc | apply Kd.R_drewN | apply Kd.R_drew)); exact HO262.out, by repeat (first | (with_reducible first | exact HB.out | apply below_alloc | apply pw_below_drewN | apply below_drew1) | exact HB.out)⟩
  ·rw [if_neg c5] at H
   have c5b0 : (a0.toList == ([68, 105, 103, 105, 116] : List UInt8)) = false := beq_eq_false_iff_ne.mpr c5
   have c5b1 : (a0.toList != ([68, 105, 103, 105, 116] : List UInt8)) = true := bne_iff_ne.mpr c5
   by_cases c8 : a0.toList = ([85, 112, 112, 101, 114] : List UInt8)
   ·rw [if_pos c8] at H
    have c8b0 : (a0.toList == ([85, 112, 112, 101, 114] : List UInt8)) = true := beq_iff_eq.mpr c8
    have c8b1 : (a0.toList != ([85, 112, 112, 101, 114] : List UInt8)) = false := bne_eq_false_iff_eq.mpr c8
    clear c8
    replace H := Option.bind_eq_some_iff.mp H
    obtain ⟨t263, A90, H⟩ := H
    replace H : (some (t263, true)) = some (r1, r2) := H
    have A9 := Aside0.mk A90
    clear A90
    simp only [Option.some.injEq, Prod.mk.injEq] at H
    obtain ⟨rfl, rfl⟩ := H
    go_enter Try.func15, Try.ntmps15
    go_wp2_with (first | ((with_reducible refine gate_callee (f := 38) rfl ?_); refine goesL_ (some 16) rfl rfl Try.func38 (by kernel_rfl) rfl #[] rfl (by (try simp only [List.map_toArray, List.map_cons, List.map_nil]); first | done | rfl | (simp only [List.length_drop, List.length_take]; rfl)) ?_; (with_reducible refine (hornbookref3_upper.calls  t263 _ A9.out).mono ?_); rintro e w10 ⟨v264, rfl, ho0, hb⟩; refine ⟨_, rfl, ?_⟩; have n0_ := Aside0.mk (Kd.R_lower ho0 (below_size (by repeat (first | (with_reducible first | exact HB.out | apply below_alloc | apply pw_below_drewN | apply below_drew1) | exact HB.out)))); have n1_ := Aside0.mk (below_step (by repeat (first | (with_reducible first | exact HB.out | apply below_alloc | apply pw_below_drewN | apply below_drew1) | exact HB.out)) hb); clear HB; have HO265 := n0_; have HB := n1_; clear n0_ n1_; (try clear hb); (try clear hb2); (try clear hk); (try clear hi); (try clear ho0)))
    go_ret2
    exact ⟨_, by first | rfl | (simp [errW_none, errW_some] <;> rfl) | (simp [*, errW_none, errW_some] <;> rfl), by (with_reducible repeat (first | apply Kd.R_alloc | apply Kd.R_drewN | apply Kd.R_drew)); exact HO265.out, by repeat (first | (with_reducible first | exact HB.out | apply below_alloc | apply pw_below_drewN | apply below_drew1) | exact HB.out)⟩
   ·rw [if_neg c8] at H
    have c8b0 : (a0.toList == ([85, 112, 112, 101, 114] : List UInt8)) = false := beq_eq_false_iff_ne.mpr c8
    have c8b1 : (a0.toList != ([85, 112, 112, 101, 114] : List UInt8)) = true := bne_iff_ne.mpr c8
    by_cases c11 : a0.toList = ([76, 111, 119, 101, 114] : List UInt8)
    ·rw [if_pos c11] at H
     have c11b0 : (a0.toList == ([76, 111, 119, 101, 114] : List UInt8)) = true := beq_iff_eq.mpr c11
     have c11b1 : (a0.toList != ([76, 111, 119, 101, 114] : List UInt8)) = false := bne_eq_false_iff_eq.mpr c11
     clear c11
     replace H := Option.bind_eq_some_iff.mp H
     obtain ⟨t266, A120, H⟩ := H
     replace H : (some (t266, true)) = some (r1, r2) := H
     have A12 := Aside0.mk A120
     clear A120
     simp only [Option.some.injEq, Prod.mk.injEq] at H
     obtain ⟨rfl, rfl⟩ := H
     go_enter Try.func15, Try.ntmps15
     go_wp2_with (first | ((with_reducible refine gate_callee (f := 39) rfl ?_); refine goesL_ (some 19) rfl rfl Try.func39 (by kernel_rfl) rfl #[] rfl (by (try simp only [List.map_toArray, List.map_cons, List.map_nil]); first | done | rfl | (simp only [List.length_drop, List.length_take]; rfl)) ?_; (with_reducible refine (hornbookref3_lower.calls  t266 _ A12.out).mono ?_); rintro e w13 ⟨v267, rfl, ho0, hb⟩; refine ⟨_, rfl, ?_⟩; have n0_ := Aside0.mk (Kd.R_lower ho0 (below_size (by repeat (first | (with_reducible first | exact HB.out | apply below_alloc | apply pw_below_drewN | apply below_drew1) | exact HB.out)))); have n1_ := Aside0.mk (below_step (by repeat (first | (with_reducible first | exact HB.out | apply below_alloc | apply pw_below_drewN | apply below_drew1) | exact HB.out)) hb); clear HB; have HO268 := n0_; have HB := n1_; clear n0_ n1_; (try clear hb); (try clear hb2); (try clear hk); (try clear hi); (try clear ho0)))
     go_ret2
     exact ⟨_, by first | rfl | (simp [errW_none, errW_some] <;> rfl) | (simp [*, errW_none, errW_some] <;> rfl), by (with_reducible repeat (first | apply Kd.R_alloc | apply Kd.R_drewN | apply Kd.R_drew)); exact HO268.out, by repeat (first | (with_reducible first | exact HB.out | apply below_alloc | apply pw_below_drewN | apply below_drew1) | exact HB.out)⟩
    ·rw [if_neg c11] at H
     have c11b0 : (a0.toList == ([76, 111, 119, 101, 114] : List UInt8)) = false := beq_eq_false_iff_ne.mpr c11
     have c11b1 : (a0.toList != ([76, 111, 119, 101, 114] : List UInt8)) = true := bne_iff_ne.mpr c11
     by_cases c14 : a0.toList = ([76, 101, 116, 116, 101, 114] : List UInt8)
     ·rw [if_pos c14] at H
      have c14b0 : (a0.toList == ([76, 101, 116, 116, 101, 114] : List UInt8)) = true := beq_iff_eq.mpr c14
      have c14b1 : (a0.toList != ([76, 101, 116, 116, 101, 114] : List UInt8)) = false := bne_eq_false_iff_eq.mpr c14
      clear c14
      replace H := Option.bind_eq_some_iff.mp H
      obtain ⟨t269, A150, H⟩ := H
      replace H : ((hornbookref3_Of.f k t269).bind fun t272 => (some (t272, true))) = some (r1, r2) := H
      have A15 := Aside0.mk A150
      clear A150
      replace H := Option.bind_eq_some_iff.mp H
      obtain ⟨t272, A160, H⟩ := H
      replace H : (some (t272, true)) = some (r1, r2) := H
      have A16 := Aside0.mk A160
      clear A160
      simp only [Option.some.injEq, Prod.mk.injEq] at H
      obtain ⟨rfl, rfl⟩ := H
      go_enter Try.func15, Try.ntmps15
      go_wp2_with (first | ((with_reducible refine gate_callee (f := 41) rfl ?_); refine goesL_ (some 22) rfl rfl Try.func41 (by kernel_rfl) rfl #[] rfl (by (try simp only [List.map_toArray, List.map_cons, List.map_nil]); first | done | rfl | (simp only [List.length_drop, List.length_take]; rfl)) ?_; (with_reducible refine (hornbookref3_letters.calls  t269 _ A15.out).mono ?_); rintro e w17 ⟨v270, rfl, ho0, hb⟩; refine ⟨_, rfl, ?_⟩; have n0_ := Aside0.mk (Kd.R_lower ho0 (below_size (by repeat (first | (with_reducible first | exact HB.out | apply below_alloc | apply pw_below_drewN | apply below_drew1) | exact HB.out)))); have n1_ := Aside0.mk (below_step (by repeat (first | (with_reducible first | exact HB.out | apply below_alloc | apply pw_below_drewN | apply below_drew1) | exact HB.out)) hb); clear HB; have HO271 := n0_; have HB := n1_; clear n0_ n1_; (try clear hb); (try clear hb2); (try clear hk); (try clear hi); (try clear ho0); obtain ⟨Ao18, co18, eo18⟩ := Kd.R_slice HO271.out; subst eo18) | ((with_reducible refine gate_callee (f := 40) rfl ?_); refine goesL_ (some 23) rfl rfl Try.func40 (by kernel_rfl) rfl #[.slice Ao18 t269.length co18] rfl (by (try simp only [List.map_toArray, List.map_cons, List.map_nil]); first | done | rfl | (simp only [List.length_drop, List.length_take]; rfl)) ?_; (with_reducible refine (hornbookref3_Of.calls k _ _ t269 t272 _ ?side1 ?side2 A16.out).mono ?_); (case side1 => repeat (first | exact (Kd.R_reads' HO271.out).2.2 | (with_reducible refine Kd.C_alloc ?_ _) | (with_reducible refine Kd.C_drewN ?_ _) | (with_reducible refine Kd.C_drew ?_))); (case side2 => exact (Kd.R_reads' HO271.out).2.1); rintro e w19 ⟨v273, rfl, ho0, hb⟩; refine ⟨_, rfl, ?_⟩; have n0_ := Aside0.mk (Kd.R_elder' (by (with_reducible repeat (first | apply Kd.R_alloc | apply Kd.R_drewN | apply Kd.R_drew)); exact HO271.out) (Kd.R_base ho0) hb); have n1_ := Aside0.mk (Kd.R_lower (Kd.R_new' ho0 (Kd.R_lt (by (with_reducible repeat (first | apply Kd.R_alloc | apply Kd.R_drewN | apply Kd.R_drew)); exact HO271.out))) (below_size (by repeat (first | (with_reducible first | exact HB.out | apply below_alloc | apply pw_below_drewN | apply below_drew1) | exact HB.out)))); have n2_ := Aside0.mk (below_step (by repeat (first | (with_reducible first | exact HB.out | apply below_alloc | apply pw_below_drewN | apply below_drew1) | exact HB.out)) hb); clear HO271; clear HB; have HO271 := n0_; have HO274 := n1_; have HB := n2_; clear n0_ n1_ n2_; (try clear hb); (try clear hb2); (try clear hk); (try clear hi); (try clear ho0)))
      go_ret2
      exact ⟨_, by first | rfl | (simp [errW_none, errW_some] <;> rfl) | (simp [*, errW_none, errW_some] <;> rfl), by (with_reducible repeat (first | apply Kd.R_alloc | apply Kd.R_drewN | apply Kd.R_drew)); exact Kd.R_mono HO274.out (fun _ hk => trivial), by repeat (first | (with_reducible first | exact HB.out | apply below_alloc | apply pw_below_drewN | apply below_drew1) | exact HB.out)⟩
     ·rw [if_neg c14] at H
      have c14b0 : (a0.toList == ([76, 101, 116, 116, 101, 114] : List UInt8)) = false := beq_eq_false_iff_ne.mpr c14
      have c14b1 : (a0.toList != ([76, 101, 116, 116, 101, 114] : List UInt8)) = true := bne_iff_ne.mpr c14
      by_cases c20 : a0.toList = ([83, 112, 97, 99, 101] : List UInt8)
      ·rw [if_pos c20] at H
       have c20b0 : (a0.toList == ([83, 112, 97, 99, 101] : List UInt8)) = true := beq_iff_eq.mpr c20
       have c20b1 : (a0.toList != ([83, 112, 97, 99, 101] : List UInt8)) = false := bne_eq_false_iff_eq.mpr c20
       clear c20
       obtain ⟨y275, hy275⟩ : ∃ y_ : List (S41), y_ = (([(⟨9, 13⟩ : S41), (⟨32, 32⟩ : S41), (⟨133, 133⟩ : S41), (⟨160, 160⟩ : S41), (⟨8192, 8202⟩ : S41), (⟨8232, 8233⟩ : S41), (⟨12288, 12288⟩ : S41)] : List (S41))) := ⟨_, rfl⟩
       replace H : (some (y275, true)) = some (r1, r2) := by first | (rw [hy275]; with_reducible exact H) | (have H2_ := (Option.bind_some _ _).symm.trans H; rw [hy275]; with_reducible exact H2_) | (have H2_ := (Option.bind_some _ _).symm.trans H; with_reducible exact H2_) | with_reducible exact H | (rw [hy275]; exact H) | exact H
       have Ny275 := Aside0.mk hy275
       clear hy275
       simp only [Option.some.injEq, Prod.mk.injEq] at H
       obtain ⟨rfl, rfl⟩ := H
       go_enter Try.func15, Try.ntmps15
       go_wp2_with (first | ((with_reducible refine gate_dst (N := 33) rfl ?_); refine Kd.R_lit k41 _ 41 ?hg (N := 33) ?hd (xs := ([(⟨9, 13⟩ : S41), (⟨32, 32⟩ : S41), (⟨133, 133⟩ : S41), (⟨160, 160⟩ : S41), (⟨8192, 8202⟩ : S41), (⟨8232, 8233⟩ : S41), (⟨12288, 12288⟩ : S41)] : List (S41))) (inner := [.int .i32 9, .int .i32 13, .int .i32 32, .int .i32 32, .int .i32 133, .int .i32 133, .int .i32 160, .int .i32 160, .int .i32 8192, .int .i32 8202, .int .i32 8232, .int .i32 8233, .int .i32 12288, .int .i32 12288]) (ok := fun _ => True) (okp := fun _ => True) ?hr ?hp (fun _ hk => hk) trivial (Below.refl _ _) (Nat.le_refl _) (by simp) ?_; (case hd => rfl); (case hg => rfl); (case hr => first | (go_simp; done) | (go_simp; rfl)); (case hp => exact (Reps.c2 (show Kd.M k41 _ _ _ (⟨9, 13⟩ : S41) [.int .i32 9, .int .i32 13] from (k41_mkM _ _ _ (⟨9, 13⟩ : S41) )) (Reps.c2 (show Kd.M k41 _ _ _ (⟨32, 32⟩ : S41) [.int .i32 32, .int .i32 32] from (k41_mkM _ _ _ (⟨32, 32⟩ : S41) )) (Reps.c2 (show Kd.M k41 _ _ _ (⟨133, 133⟩ : S41) [.int .i32 133, .int .i32 133] from (k41_mkM _ _ _ (⟨133, 133⟩ : S41) )) (Reps.c2 (show Kd.M k41 _ _ _ (⟨160, 160⟩ : S41) [.int .i32 160, .int .i32 160] from (k41_mkM _ _ _ (⟨160, 160⟩ : S41) )) (Reps.c2 (show Kd.M k41 _ _ _ (⟨8192, 8202⟩ : S41) [.int .i32 8192, .int .i32 8202] from (k41_mkM _ _ _ (⟨8192, 8202⟩ : S41) )) (Reps.c2 (show Kd.M k41 _ _ _ (⟨8232, 8233⟩ : S41) [.int .i32 8232, .int .i32 8233] from (k41_mkM _ _ _ (⟨8232, 8233⟩ : S41) )) (Reps.c2 (show Kd.M k41 _ _ _ (⟨12288, 12288⟩ : S41) [.int .i32 12288, .int .i32 12288] from (k41_mkM _ _ _ (⟨12288, 12288⟩ : S41) )) (Reps.none _ _))))))))); intro v276 w21 ho22 hb hg_ hnew_; clear hg_ hnew_; (first | rw [← Ny275.out] at ho22 | (simp only [Int.reduceToNat] at ho22; rw [← Ny275.out] at ho22)); have n0_ := Aside0.mk (Kd.R_lower ho22 (below_size (by repeat (first | (with_reducible first | exact HB.out | apply below_alloc | apply pw_below_drewN | apply below_drew1) | exact HB.out)))); have n1_ := Aside0.mk (below_step (by repeat (first | (with_reducible first | exact HB.out | apply below_alloc | apply pw_below_drewN | apply below_drew1) | exact HB.out)) hb); clear HB; have HO277 := n0_; have HB := n1_; clear n0_ n1_; clear hb ho22))
       go_ret2
       exact ⟨_, by first | rfl | (simp [errW_none, errW_some] <;> rfl) | (simp [*, errW_none, errW_some] <;> rfl), by (with_reducible repeat (first | apply Kd.R_alloc | apply Kd.R_drewN | apply Kd.R_drew)); exact HO277.out, by repeat (first | (with_reducible first | exact HB.out | apply below_alloc | apply pw_below_drewN | apply below_drew1) | exact HB.out)⟩
      ·rw [if_neg c20] at H
       have c20b0 : (a0.toList == ([83, 112, 97, 99, 101] : List UInt8)) = false := beq_eq_false_iff_ne.mpr c20
       have c20b1 : (a0.toList != ([83, 112, 97, 99, 101] : List UInt8)) = true := bne_iff_ne.mpr c20
       by_cases c23 : a0.toList = ([77, 97, 114, 107] : List UInt8)
       ·rw [if_pos c23] at H
        have c23b0 : (a0.toList == ([77, 97, 114, 107] : List UInt8)) = true := beq_iff_eq.mpr c23
        have c23b1 : (a0.toList != ([77, 97, 114, 107] : List UInt8)) = false := bne_eq_false_iff_eq.mpr c23
        clear c23
        obtain ⟨y278, hy278⟩ : ∃ y_ : List (S41), y_ = (([(⟨768, 879⟩ : S41), (⟨8205, 8205⟩ : S41), (⟨65024, 65039⟩ : S41)] : List (S41))) := ⟨_, rfl⟩
        replace H : (some (y278, true)) = some (r1, r2) := by first | (rw [hy278]; with_reducible exact H) | (have H2_ := (Option.bind_some _ _).symm.trans H; rw [hy278]; with_reducible exact H2_) | (have H2_ := (Option.bind_some _ _).symm.trans H; with_reducible exact H2_) | with_reducible exact H | (rw [hy278]; exact H) | exact H
        have Ny278 := Aside0.mk hy278
        clear hy278
        simp only [Option.some.injEq, Prod.mk.injEq] at H
        obtain ⟨rfl, rfl⟩ := H
        go_enter Try.func15, Try.ntmps15
        go_wp2_with (first | ((with_reducible refine gate_dst (N := 39) rfl ?_); refine Kd.R_lit k41 _ 41 ?hg (N := 39) ?hd (xs := ([(⟨768, 879⟩ : S41), (⟨8205, 8205⟩ : S41), (⟨65024, 65039⟩ : S41)] : List (S41))) (inner := [.int .i32 768, .int .i32 879, .int .i32 8205, .int .i32 8205, .int .i32 65024, .int .i32 65039]) (ok := fun _ => True) (okp := fun _ => True) ?hr ?hp (fun _ hk => hk) trivial (Below.refl _ _) (Nat.le_refl _) (by simp) ?_; (case hd => rfl); (case hg => rfl); (case hr => first | (go_simp; done) | (go_simp; rfl)); (case hp => exact (Reps.c2 (show Kd.M k41 _ _ _ (⟨768, 879⟩ : S41) [.int .i32 768, .int .i32 879] from (k41_mkM _ _ _ (⟨768, 879⟩ : S41) )) (Reps.c2 (show Kd.M k41 _ _ _ (⟨8205, 8205⟩ : S41) [.int .i32 8205, .int .i32 8205] from (k41_mkM _ _ _ (⟨8205, 8205⟩ : S41) )) (Reps.c2 (show Kd.M k41 _ _ _ (⟨65024, 65039⟩ : S41) [.int .i32 65024, .int .i32 65039] from (k41_mkM _ _ _ (⟨65024, 65039⟩ : S41) )) (Reps.none _ _))))); intro v279 w24 ho25 hb hg_ hnew_; clear hg_ hnew_; (first | rw [← Ny278.out] at ho25 | (simp only [Int.reduceToNat] at ho25; rw [← Ny278.out] at ho25)); have n0_ := Aside0.mk (Kd.R_lower ho25 (below_size (by repeat (first | (with_reducible first | exact HB.out | apply below_alloc | apply pw_below_drewN | apply below_drew1) | exact HB.out)))); have n1_ := Aside0.mk (below_step (by repeat (first | (with_reducible first | exact HB.out | apply below_alloc | apply pw_below_drewN | apply below_drew1) | exact HB.out)) hb); clear HB; have HO280 := n0_; have HB := n1_; clear n0_ n1_; clear hb ho25))
        go_ret2
        exact ⟨_, by first | rfl | (simp [errW_none, errW_some] <;> rfl) | (simp [*, errW_none, errW_some] <;> rfl), by (with_reducible repeat (first | apply Kd.R_alloc | apply Kd.R_drewN | apply Kd.R_drew)); exact HO280.out, by repeat (first | (with_reducible first | exact HB.out | apply below_alloc | apply pw_below_drewN | apply below_drew1) | exact HB.out)⟩
       ·rw [if_neg c23] at H
        have c23b0 : (a0.toList == ([77, 97, 114, 107] : List UInt8)) = false := beq_eq_false_iff_ne.mpr c23
        have c23b1 : (a0.toList != ([77, 97, 114, 107] : List UInt8)) = true := bne_iff_ne.mpr c23
        by_cases c26 : a0.toList = ([80, 117, 110, 99, 116] : List UInt8)
        ·rw [if_pos c26] at H
         have c26b0 : (a0.toList == ([80, 117, 110, 99, 116] : List UInt8)) = true := beq_iff_eq.mpr c26
         have c26b1 : (a0.toList != ([80, 117, 110, 99, 116] : List UInt8)) = false := bne_eq_false_iff_eq.mpr c26
         clear c26
         obtain ⟨y281, hy281⟩ : ∃ y_ : List (S41), y_ = (([(⟨33, 47⟩ : S41), (⟨58, 64⟩ : S41), (⟨91, 96⟩ : S41), (⟨123, 126⟩ : S41), (⟨8208, 8231⟩ : S41)] : List (S41))) := ⟨_, rfl⟩
         replace H : (some (y281, true)) = some (r1, r2) := by first | (rw [hy281]; with_reducible exact H) | (have H2_ := (Option.bind_some _ _).symm.trans H; rw [hy281]; with_reducible exact H2_) | (have H2_ := (Option.bind_some _ _).symm.trans H; with_reducible exact H2_) | with_reducible exact H | (rw [hy281]; exact H) | exact H
         have Ny281 := Aside0.mk hy281
         clear hy281
         simp only [Option.some.injEq, Prod.mk.injEq] at H
         obtain ⟨rfl, rfl⟩ := H
         go_enter Try.func15, Try.ntmps15
         go_wp2_with (first | ((with_reducible refine gate_dst (N := 47) rfl ?_); refine Kd.R_lit k41 _ 41 ?hg (N := 47) ?hd (xs := ([(⟨33, 47⟩ : S41), (⟨58, 64⟩ : S41), (⟨91, 96⟩ : S41), (⟨123, 126⟩ : S41), (⟨8208, 8231⟩ : S41)] : List (S41))) (inner := [.int .i32 33, .int .i32 47, .int .i32 58, .int .i32 64, .int .i32 91, .int .i32 96, .int .i32 123, .int .i32 126, .int .i32 8208, .int .i32 8231]) (ok := fun _ => True) (okp := fun _ => True) ?hr ?hp (fun _ hk => hk) trivial (Below.refl _ _) (Nat.le_refl _) (by simp) ?_; (case hd => rfl); (case hg => rfl); (case hr => first | (go_simp; done) | (go_simp; rfl)); (case hp => exact (Reps.c2 (show Kd.M k41 _ _ _ (⟨33, 47⟩ : S41) [.int .i32 33, .int .i32 47] from (k41_mkM _ _ _ (⟨33, 47⟩ : S41) )) (Reps.c2 (show Kd.M k41 _ _ _ (⟨58, 64⟩ : S41) [.int .i32 58, .int .i32 64] from (k41_mkM _ _ _ (⟨58, 64⟩ : S41) )) (Reps.c2 (show Kd.M k41 _ _ _ (⟨91, 96⟩ : S41) [.int .i32 91, .int .i32 96] from (k41_mkM _ _ _ (⟨91, 96⟩ : S41) )) (Reps.c2 (show Kd.M k41 _ _ _ (⟨123, 126⟩ : S41) [.int .i32 123, .int .i32 126] from (k41_mkM _ _ _ (⟨123, 126⟩ : S41) )) (Reps.c2 (show Kd.M k41 _ _ _ (⟨8208, 8231⟩ : S41) [.int .i32 8208, .int .i32 8231] from (k41_mkM _ _ _ (⟨8208, 8231⟩ : S41) )) (Reps.none _ _))))))); intro v282 w27 ho28 hb hg_ hnew_; clear hg_ hnew_; (first | rw [← Ny281.out] at ho28 | (simp only [Int.reduceToNat] at ho28; rw [← Ny281.out] at ho28)); have n0_ := Aside0.mk (Kd.R_lower ho28 (below_size (by repeat (first | (with_reducible first | exact HB.out | apply below_alloc | apply pw_below_drewN | apply below_drew1) | exact HB.out)))); have n1_ := Aside0.mk (below_step (by repeat (first | (with_reducible first | exact HB.out | apply below_alloc | apply pw_below_drewN | apply below_drew1) | exact HB.out)) hb); clear HB; have HO283 := n0_; have HB := n1_; clear n0_ n1_; clear hb ho28))
         go_ret2
         exact ⟨_, by first | rfl | (simp [errW_none, errW_some] <;> rfl) | (simp [*, errW_none, errW_some] <;> rfl), by (with_reducible repeat (first | apply Kd.R_alloc | apply Kd.R_drewN | apply Kd.R_drew)); exact HO283.out, by repeat (first | (with_reducible first | exact HB.out | apply below_alloc | apply pw_below_drewN | apply below_drew1) | exact HB.out)⟩
        ·rw [if_neg c26] at H
         have c26b0 : (a0.toList == ([80, 117, 110, 99, 116] : List UInt8)) = false := beq_eq_false_iff_ne.mpr c26
         have c26b1 : (a0.toList != ([80, 117, 110, 99, 116] : List UInt8)) = true := bne_iff_ne.mpr c26
         by_cases c29 : a0.toList = ([72, 97, 110] : List UInt8)
         ·rw [if_pos c29] at H
          have c29b0 : (a0.toList == ([72, 97, 110] : List UInt8)) = true := beq_iff_eq.mpr c29
          have c29b1 : (a0.toList != ([72, 97, 110] : List UInt8)) = false := bne_eq_false_iff_eq.mpr c29
          clear c29
          obtain ⟨y284, hy284⟩ : ∃ y_ : List (S41), y_ = (([(⟨19968, 40959⟩ : S41)] : List (S41))) := ⟨_, rfl⟩
          replace H : (some (y284, true)) = some (r1, r2) := by first | (rw [hy284]; with_reducible exact H) | (have H2_ := (Option.bind_some _ _).symm.trans H; rw [hy284]; with_reducible exact H2_) | (have H2_ := (Option.bind_some _ _).symm.trans H; with_reducible exact H2_) | with_reducible exact H | (rw [hy284]; exact H) | exact H
          have Ny284 := Aside0.mk hy284
          clear hy284
          simp only [Option.some.injEq, Prod.mk.injEq] at H
          obtain ⟨rfl, rfl⟩ := H
          go_enter Try.func15, Try.ntmps15
          go_wp2_with (first | ((with_reducible refine gate_dst (N := 51) rfl ?_); refine Kd.R_lit k41 _ 41 ?hg (N := 51) ?hd (xs := ([(⟨19968, 40959⟩ : S41)] : List (S41))) (inner := [.int .i32 19968, .int .i32 40959]) (ok := fun _ => True) (okp := fun _ => True) ?hr ?hp (fun _ hk => hk) trivial (Below.refl _ _) (Nat.le_refl _) (by simp) ?_; (case hd => rfl); (case hg => rfl); (case hr => first | (go_simp; done) | (go_simp; rfl)); (case hp => exact (Reps.c2 (show Kd.M k41 _ _ _ (⟨19968, 40959⟩ : S41) [.int .i32 19968, .int .i32 40959] from (k41_mkM _ _ _ (⟨19968, 40959⟩ : S41) )) (Reps.none _ _))); intro v285 w30 ho31 hb hg_ hnew_; clear hg_ hnew_; (first | rw [← Ny284.out] at ho31 | (simp only [Int.reduceToNat] at ho31; rw [← Ny284.out] at ho31)); have n0_ := Aside0.mk (Kd.R_lower ho31 (below_size (by repeat (first | (with_reducible first | exact HB.out | apply below_alloc | apply pw_below_drewN | apply below_drew1) | exact HB.out)))); have n1_ := Aside0.mk (below_step (by repeat (first | (with_reducible first | exact HB.out | apply below_alloc | apply pw_below_drewN | apply below_drew1) | exact HB.out)) hb); clear HB; have HO286 := n0_; have HB := n1_; clear n0_ n1_; clear hb ho31))
          go_ret2
          exact ⟨_, by first | rfl | (simp [errW_none, errW_some] <;> rfl) | (simp [*, errW_none, errW_some] <;> rfl), by (with_reducible repeat (first | apply Kd.R_alloc | apply Kd.R_drewN | apply Kd.R_drew)); exact HO286.out, by repeat (first | (with_reducible first | exact HB.out | apply below_alloc | apply pw_below_drewN | apply below_drew1) | exact HB.out)⟩
         ·rw [if_neg c29] at H
          have c29b0 : (a0.toList == ([72, 97, 110] : List UInt8)) = false := beq_eq_false_iff_ne.mpr c29
          have c29b1 : (a0.toList != ([72, 97, 110] : List UInt8)) = true := bne_iff_ne.mpr c29
          by_cases c32 : a0.toList = ([75, 97, 110, 97] : List UInt8)
          ·rw [if_pos c32] at H
           have c32b0 : (a0.toList == ([75, 97, 110, 97] : List UInt8)) = true := beq_iff_eq.mpr c32
           have c32b1 : (a0.toList != ([75, 97, 110, 97] : List UInt8)) = false := bne_eq_false_iff_eq.mpr c32
           clear c32
           obtain ⟨y287, hy287⟩ : ∃ y_ : List (S41), y_ = (([(⟨12352, 12543⟩ : S41)] : List (S41))) := ⟨_, rfl⟩
           replace H : (some (y287, true)) = some (r1, r2) := by first | (rw [hy287]; with_reducible exact H) | (have H2_ := (Option.bind_some _ _).symm.trans H; rw [hy287]; with_reducible exact H2_) | (have H2_ := (Option.bind_some _ _).symm.trans H; with_reducible exact H2_) | with_reducible exact H | (rw [hy287]; exact H) | exact H
           have Ny287 := Aside0.mk hy287
           clear hy287
           simp only [Option.some.injEq, Prod.mk.injEq] at H
           obtain ⟨rfl, rfl⟩ := H
           go_enter Try.func15, Try.ntmps15
           go_wp2_with (first | ((with_reducible refine gate_dst (N := 55) rfl ?_); refine Kd.R_lit k41 _ 41 ?hg (N := 55) ?hd (xs := ([(⟨12352, 12543⟩ : S41)] : List (S41))) (inner := [.int .i32 12352, .int .i32 12543]) (ok := fun _ => True) (okp := fun _ => True) ?hr ?hp (fun _ hk => hk) trivial (Below.refl _ _) (Nat.le_refl _) (by simp) ?_; (case hd => rfl); (case hg => rfl); (case hr => first | (go_simp; done) | (go_simp; rfl)); (case hp => exact (Reps.c2 (show Kd.M k41 _ _ _ (⟨12352, 12543⟩ : S41) [.int .i32 12352, .int .i32 12543] from (k41_mkM _ _ _ (⟨12352, 12543⟩ : S41) )) (Reps.none _ _))); intro v288 w33 ho34 hb hg_ hnew_; clear hg_ hnew_; (first | rw [← Ny287.out] at ho34 | (simp only [Int.reduceToNat] at ho34; rw [← Ny287.out] at ho34)); have n0_ := Aside0.mk (Kd.R_lower ho34 (below_size (by repeat (first | (with_reducible first | exact HB.out | apply below_alloc | apply pw_below_drewN | apply below_drew1) | exact HB.out)))); have n1_ := Aside0.mk (below_step (by repeat (first | (with_reducible first | exact HB.out | apply below_alloc | apply pw_below_drewN | apply below_drew1) | exact HB.out)) hb); clear HB; have HO289 := n0_; have HB := n1_; clear n0_ n1_; clear hb ho34))
           go_ret2
           exact ⟨_, by first | rfl | (simp [errW_none, errW_some] <;> rfl) | (simp [*, errW_none, errW_some] <;> rfl), by (with_reducible repeat (first | apply Kd.R_alloc | apply Kd.R_drewN | apply Kd.R_drew)); exact HO289.out, by repeat (first | (with_reducible first | exact HB.out | apply below_alloc | apply pw_below_drewN | apply below_drew1) | exact HB.out)⟩
          ·rw [if_neg c32] at H
           have c32b0 : (a0.toList == ([75, 97, 110, 97] : List UInt8)) = false := beq_eq_false_iff_ne.mpr c32
           have c32b1 : (a0.toList != ([75, 97, 110, 97] : List UInt8)) = true := bne_iff_ne.mpr c32
           by_cases c35 : a0.toList = ([69, 109, 111, 106, 105] : List UInt8)
           ·rw [if_pos c35] at H
            have c35b0 : (a0.toList == ([69, 109, 111, 106, 105] : List UInt8)) = true := beq_iff_eq.mpr c35
            have c35b1 : (a0.toList != ([69, 109, 111, 106, 105] : List UInt8)) = false := bne_eq_false_iff_eq.mpr c35
            clear c35
            obtain ⟨y290, hy290⟩ : ∃ y_ : List (S41), y_ = (([(⟨127744, 129791⟩ : S41)] : List (S41))) := ⟨_, rfl⟩
            replace H : (some (y290, true)) = some (r1, r2) := by first | (rw [hy290]; with_reducible exact H) | (have H2_ := (Option.bind_some _ _).symm.trans H; rw [hy290]; with_reducible exact H2_) | (have H2_ := (Option.bind_some _ _).symm.trans H; with_reducible exact H2_) | with_reducible exact H | (rw [hy290]; exact H) | exact H
            have Ny290 := Aside0.mk hy290
            clear hy290
            simp only [Option.some.injEq, Prod.mk.injEq] at H
            obtain ⟨rfl, rfl⟩ := H
            go_enter Try.func15, Try.ntmps15
            go_wp2_with (first | ((with_reducible refine gate_dst (N := 59) rfl ?_); refine Kd.R_lit k41 _ 41 ?hg (N := 59) ?hd (xs := ([(⟨127744, 129791⟩ : S41)] : List (S41))) (inner := [.int .i32 127744, .int .i32 129791]) (ok := fun _ => True) (okp := fun _ => True) ?hr ?hp (fun _ hk => hk) trivial (Below.refl _ _) (Nat.le_refl _) (by simp) ?_; (case hd => rfl); (case hg => rfl); (case hr => first | (go_simp; done) | (go_simp; rfl)); (case hp => exact (Reps.c2 (show Kd.M k41 _ _ _ (⟨127744, 129791⟩ : S41) [.int .i32 127744, .int .i32 129791] from (k41_mkM _ _ _ (⟨127744, 129791⟩ : S41) )) (Reps.none _ _))); intro v291 w36 ho37 hb hg_ hnew_; clear hg_ hnew_; (first | rw [← Ny290.out] at ho37 | (simp only [Int.reduceToNat] at ho37; rw [← Ny290.out] at ho37)); have n0_ := Aside0.mk (Kd.R_lower ho37 (below_size (by repeat (first | (with_reducible first | exact HB.out | apply below_alloc | apply pw_below_drewN | apply below_drew1) | exact HB.out)))); have n1_ := Aside0.mk (below_step (by repeat (first | (with_reducible first | exact HB.out | apply below_alloc | apply pw_below_drewN | apply below_drew1) | exact HB.out)) hb); clear HB; have HO292 := n0_; have HB := n1_; clear n0_ n1_; clear hb ho37))
            go_ret2
            exact ⟨_, by first | rfl | (simp [errW_none, errW_some] <;> rfl) | (simp [*, errW_none, errW_some] <;> rfl), by (with_reducible repeat (first | apply Kd.R_alloc | apply Kd.R_drewN | apply Kd.R_drew)); exact HO292.out, by repeat (first | (with_reducible first | exact HB.out | apply below_alloc | apply pw_below_drewN | apply below_drew1) | exact HB.out)⟩
           ·rw [if_neg c35] at H
            have c35b0 : (a0.toList == ([69, 109, 111, 106, 105] : List UInt8)) = false := beq_eq_false_iff_ne.mpr c35
            have c35b1 : (a0.toList != ([69, 109, 111, 106, 105] : List UInt8)) = true := bne_iff_ne.mpr c35
            simp only [Option.some.injEq, Prod.mk.injEq] at H
            obtain ⟨rfl, rfl⟩ := H
            go_enter Try.func15, Try.ntmps15
            go_wp2
            go_ret2
            exact ⟨_, by first | rfl | (simp [errW_none, errW_some] <;> rfl) | (simp [*, errW_none, errW_some] <;> rfl), by first | exact Kd.R_nil _ _ _ _ _ | exact Kd.N_nil _ _ _ _ _ | exact Kd.V_nil _ _ _ _ _ | exact Kd.Q_nil _ _ _ _ _ | exact Kd.S_nil _ _ _ _ _, by repeat (first | (with_reducible first | exact HB.out | apply below_alloc | apply pw_below_drewN | apply below_drew1) | exact HB.out)⟩

/-! ### hornbookref3_Same: function 16 -/
def hornbookref3_Same.l0 : Nat → List (S41) → List (S41) → Int → Option (Bool)
 | 0, _, _, _ => none
 | k + 1, x0, x1, x5 => if x5 < (x0.length : Int) then (if 0 ≤ x5 then (if x5 < (x1.length : Int) then (if (!(((rd_T41 x0 x5).f0) == ((rd_T41 x1 x5).f0)) || (!(((rd_T41 x0 x5).f1) == ((rd_T41 x1 x5).f1)))) = true then (some false) else (hornbookref3_Same.l0 k x0 x1 (wrap64 (x5 + 1)))) else (none)) else (none)) else (some true)
def hornbookref3_Same.f (k : Nat) (l0 : List (S41)) (l1 : List (S41)) : Option (Bool) := if (l0.length : Int) = (l1.length : Int) then (hornbookref3_Same.l0 k l0 l1 0) else (some false)
theorem hornbookref3_Same.mono_l : ∀ k, (∀ y0 y1 y2, LeO (hornbookref3_Same.l0 k y0 y1 y2) (hornbookref3_Same.l0 (k + 1) y0 y1 y2))
 | 0 => fun _ _ _ r h => by simp [hornbookref3_Same.l0] at h
 | k + 1 => by
  have ih0 := hornbookref3_Same.mono_l k
  ·intro y0 y1 y2
   unfold hornbookref3_Same.l0
   repeat' first
   | (with_reducible exact ih0 _ _ _)
   | (with_reducible exact LeO.refl _)
   | (with_reducible exact LeO.none _)
   | (with_reducible refine LeO.ite ?_ ?_)
   | (with_reducible refine LeO.bind ?_ (fun _ => ?_))
   | exact ih0 _ _ _
   | exact LeO.none _
   | refine LeO.ite ?_ ?_
   | refine LeO.bind ?_ (fun _ => ?_)
theorem hornbookref3_Same.mono : ∀ a0 a1 k, LeO (hornbookref3_Same.f k a0 a1) (hornbookref3_Same.f (k + 1) a0 a1) := by
 intro a0 a1 k
 have ih0 := hornbookref3_Same.mono_l k
 unfold hornbookref3_Same.f
 repeat' first
   | (with_reducible exact ih0 _ _ _)
   | (with_reducible exact LeO.refl _)
   | (with_reducible exact LeO.none _)
   | (with_reducible refine LeO.ite ?_ ?_)
   | (with_reducible refine LeO.bind ?_ (fun _ => ?_))
   | exact ih0 _ _ _
   | exact LeO.none _
   | refine LeO.ite ?_ ?_
   | refine LeO.bind ?_ (fun _ => ?_)
set_option maxHeartbeats 8000000 in
set_option maxRecDepth 100000 in
theorem hornbookref3_Same.calls (k : Nat) (A0 : Option Addr) (c0 : Nat) (l0 : List (S41)) (A1 : Option Addr) (c1 : Nat) (l1 : List (S41)) (r : Bool) (w : World) (hr0 : Kd.C k41 w A0 l0.length l0) (hc0 : l0.length ≤ c0) (hr1 : Kd.C k41 w A1 l1.length l1) (hc1 : l1.length ≤ c1) (h : hornbookref3_Same.f k l0 l1 = some r) :
  Calls Try.prog 16 #[.slice A0 l0.length c0, .slice A1 l1.length c1] w fun e w' => e = .returned (.bool r) ∧ Drawn0 w w' := by
 have hu41 := Try.underlying41
 have HR0 := Aside0.mk hr0
 have HC0 := Aside0.mk hc0
 clear hr0 hc0
 have HR1 := Aside0.mk hr1
 have HC1 := Aside0.mk hc1
 clear hr1 hc1
 have H : (if (l0.length : Int) = (l1.length : Int) then (hornbookref3_Same.l0 k l0 l1 0) else (some false)) = some r := h
 clear h
 by_cases c3 : (l0.length : Int) = (l1.length : Int)
 ·rw [if_pos c3] at H
  have c3b0 : ((l0.length : Int) == (l1.length : Int)) = true := beq_iff_eq.mpr c3
  have c3b1 : ((l0.length : Int) != (l1.length : Int)) = false := bne_eq_false_iff_eq.mpr c3
  have c3b2 : (l0.length == l1.length) = true := by first | simpa using c3 | (simp at c3 ⊢; omega)
  clear c3
  have H' := Aside0.mk H
  clear H
  go_enter Try.func16, Try.ntmps16
  go_wp2
  repeat (go_quiet (fail); try go_wp2)
  go_loopg [5] k (fun kq v5 w' => ∃ (x5_1 : Int), v5 = .int .i64 x5_1 ∧ Aside0 (hornbookref3_Same.l0 kq l0 l1 x5_1 = some r) ∧ Aside0 (kq ≤ k) ∧ Drawn0 w w')
  case atStart => exact ⟨(0), (by first | rfl | (simp; done) | (simp [*]; done)), H', ⟨Nat.le_refl _⟩, by repeat (first | exact Drawn0.refl _ | apply Drawn0.step)⟩
  case round =>
   clear H'
   try clear c1
   try clear p2
   try clear c3
   try clear c3b0
   try clear c3b1
   try clear c3b2
   obtain ⟨x5_1, rfl, HA, HK1, ⟨m1, rfl⟩⟩ := hrel
   cases gk with
   | zero => exact absurd HA.out (by simp [hornbookref3_Same.l0])
   | succ k1 =>
    have H := HA.out
    clear HA
    simp only [hornbookref3_Same.l0] at H
    by_cases c4 : x5_1 < (l0.length : Int)
    ·rw [if_pos c4] at H
     have c4b0 : decide (x5_1 < (l0.length : Int)) = true := decide_eq_true c4
     clear c4
     by_cases c5 : 0 ≤ x5_1
     ·rw [if_pos c5] at H
      have c5b0 : decide (0 ≤ x5_1) = true := decide_eq_true c5
      clear c5
      by_cases c6 : x5_1 < (l1.length : Int)
      ·rw [if_pos c6] at H
       have c6b0 : decide (x5_1 < (l1.length : Int)) = true := decide_eq_true c6
       clear c6
       by_cases c7 : (!(((rd_T41 l0 x5_1).f0) == ((rd_T41 l1 x5_1).f0)) || (!(((rd_T41 l0 x5_1).f1) == ((rd_T41 l1 x5_1).f1)))) = true
       ·rw [if_pos c7] at H
        have c7b0 : (!(((rd_T41 l0 x5_1).f0) == ((rd_T41 l1 x5_1).f0)) || (!(((rd_T41 l0 x5_1).f1) == ((rd_T41 l1 x5_1).f1)))) = true := c7
        clear c7
        obtain rfl := Option.some.inj H
        have p293 : 0 ≤ (x5_1 : Int) := of_decide_eq_true (by first | (with_reducible assumption) | assumption)
        have q293 : x5_1 < (l0.length : Int) := of_decide_eq_true (by first | (with_reducible assumption) | assumption)
        obtain ⟨ad293, e293, hx293_0, hx293_1⟩ := at_T41 HR0.out x5_1 p293 q293
        cases e293
        replace p293 := eq_true p293
        replace q293 := eq_true q293
        have p294 : 0 ≤ (x5_1 : Int) := of_decide_eq_true (by first | (with_reducible assumption) | assumption)
        have q294 : x5_1 < (l1.length : Int) := of_decide_eq_true (by first | (with_reducible assumption) | assumption)
        obtain ⟨ad294, e294, hx294_0, hx294_1⟩ := at_T41 HR1.out x5_1 p294 q294
        cases e294
        replace p294 := eq_true p294
        replace q294 := eq_true q294
        go_wp2
        repeat (go_quiet (fail); try go_wp2)
        go_ret
        exact ⟨by first | rfl | (simp; done) | (simp [*]; done), by repeat (first | exact Drawn0.refl _ | apply Drawn0.step)⟩
       ·rw [if_neg c7] at H
        have c7b0 : (!(((rd_T41 l0 x5_1).f0) == ((rd_T41 l1 x5_1).f0)) || (!(((rd_T41 l0 x5_1).f1) == ((rd_T41 l1 x5_1).f1)))) = false := by simpa using c7
        clear c7
        have H' := Aside0.mk H
        clear H
        have p293 : 0 ≤ (x5_1 : Int) := of_decide_eq_true (by first | (with_reducible assumption) | assumption)
        have q293 : x5_1 < (l0.length : Int) := of_decide_eq_true (by first | (with_reducible assumption) | assumption)
        obtain ⟨ad293, e293, hx293_0, hx293_1⟩ := at_T41 HR0.out x5_1 p293 q293
        cases e293
        replace p293 := eq_true p293
        replace q293 := eq_true q293
        have p294 : 0 ≤ (x5_1 : Int) := of_decide_eq_true (by first | (with_reducible assumption) | assumption)
        have q294 : x5_1 < (l1.length : Int) := of_decide_eq_true (by first | (with_reducible assumption) | assumption)
        obtain ⟨ad294, e294, hx294_0, hx294_1⟩ := at_T41 HR1.out x5_1 p294 q294
        cases e294
        replace p294 := eq_true p294
        replace q294 := eq_true q294
        go_wp2
        repeat (go_quiet (fail); try go_wp2)
        go_roundg k1
        case measure => have := HK1.out; omega
        case rel => exact ⟨(wrap64 (x5_1 + 1)), (by first | rfl | (simp; done) | (simp [*]; done)), H', ⟨by have := HK1.out; omega⟩, by repeat (first | exact Drawn0.refl _ | apply Drawn0.step)⟩
      ·rw [if_neg c6] at H
       exact absurd H (by simp)
     ·rw [if_neg c5] at H
      exact absurd H (by simp)
    ·rw [if_neg c4] at H
     have c4b0 : decide (x5_1 < (l0.length : Int)) = false := decide_eq_false c4
     clear c4
     obtain rfl := Option.some.inj H
     go_wp2
     repeat (go_quiet (fail); try go_wp2)
     go_ret
     exact ⟨by first | rfl | (simp; done) | (simp [*]; done), by repeat (first | exact Drawn0.refl _ | apply Drawn0.step)⟩
 ·rw [if_neg c3] at H
  have c3b0 : ((l0.length : Int) == (l1.length : Int)) = false := beq_eq_false_iff_ne.mpr c3
  have c3b1 : ((l0.length : Int) != (l1.length : Int)) = true := bne_iff_ne.mpr c3
  have c3b2 : (l0.length == l1.length) = false := by first | simpa using c3 | (simp at c3 ⊢; omega)
  obtain rfl := Option.some.inj H
  go_enter Try.func16, Try.ntmps16
  go_wp2
  repeat (go_quiet (fail); try go_wp2)
  go_ret
  exact ⟨by first | rfl | (simp; done) | (simp [*]; done), by repeat (first | exact Drawn0.refl _ | apply Drawn0.step)⟩

/-! ### hornbookref3_Has: function 17 -/
def hornbookref3_Has.l0 : Nat → List (S41) → Int → Int → Option (Bool)
 | 0, _, _, _ => none
 | k + 1, x0, x1, x5 => if x5 < (x0.length : Int) then (if 0 ≤ x5 then ((hornbookref3_good.f ((rd_T41 x0 x5).f0) ((rd_T41 x0 x5).f1)).bind fun t296 => (if t296 = true then (if ((rd_T41 x0 x5).f0) ≤ x1 then (if x1 ≤ ((rd_T41 x0 x5).f1) then (some true) else (hornbookref3_Has.l0 k x0 x1 (wrap64 (x5 + 1)))) else (hornbookref3_Has.l0 k x0 x1 (wrap64 (x5 + 1)))) else (hornbookref3_Has.l0 k x0 x1 (wrap64 (x5 + 1))))) else (none)) else (some false)
def hornbookref3_Has.f (k : Nat) (l0 : List (S41)) (a1 : Int) : Option (Bool) := hornbookref3_Has.l0 k l0 a1 0
theorem hornbookref3_Has.mono_l : ∀ k, (∀ y0 y1 y2, LeO (hornbookref3_Has.l0 k y0 y1 y2) (hornbookref3_Has.l0 (k + 1) y0 y1 y2))
 | 0 => fun _ _ _ r h => by simp [hornbookref3_Has.l0] at h
 | k + 1 => by
  have ih0 := hornbookref3_Has.mono_l k
  ·intro y0 y1 y2
   unfold hornbookref3_Has.l0
   repeat' first
   | (with_reducible exact ih0 _ _ _)
   | (with_reducible exact LeO.refl _)
   | (with_reducible exact LeO.none _)
   | (with_reducible refine LeO.ite ?_ ?_)
   | (with_reducible refine LeO.bind ?_ (fun _ => ?_))
   | exact ih0 _ _ _
   | exact LeO.none _
   | refine LeO.ite ?_ ?_
   | refine LeO.bind ?_ (fun _ => ?_)
theorem hornbookref3_Has.mono : ∀ a0 a1 k, LeO (hornbookref3_Has.f k a0 a1) (hornbookref3_Has.f (k + 1) a0 a1) := by
 intro a0 a1 k
 have ih0 := hornbookref3_Has.mono_l k
 unfold hornbookref3_Has.f
 repeat' first
   | (with_reducible exact ih0 _ _ _)
   | (with_reducible exact LeO.refl _)
   | (with_reducible exact LeO.none _)
   | (with_reducible refine LeO.ite ?_ ?_)
   | (with_reducible refine LeO.bind ?_ (fun _ => ?_))
   | exact ih0 _ _ _
   | exact LeO.none _
   | refine LeO.ite ?_ ?_
   | refine LeO.bind ?_ (fun _ => ?_)
set_option maxHeartbeats 8000000 in
set_option maxRecDepth 100000 in
theorem hornbookref3_Has.calls (k : Nat) (A0 : Option Addr) (c0 : Nat) (l0 : List (S41)) (a1 : Int) (r : Bool) (w : World) (hr0 : Kd.C k41 w A0 l0.length l0) (hc0 : l0.length ≤ c0) (h : hornbookref3_Has.f k l0 a1 = some r) :
  Calls Try.prog 17 #[.slice A0 l0.length c0, .int .i32 a1] w fun e w' => e = .returned (.bool r) ∧ Below w.heap.size w w' := by
 have hu41 := Try.underlying41
 have HR0 := Aside0.mk hr0
 have HC0 := Aside0.mk hc0
 clear hr0 hc0
 have HB := Aside0.mk (Below.refl w.heap.size w)
 have H : (hornbookref3_Has.l0 k l0 a1 0) = some r := h
 clear h
 have H' := Aside0.mk H
 clear H
 go_enter Try.func17, Try.ntmps17
 go_wp2
 go_loopg [5] k (fun kq v5 w' => ∃ (x5_1 : Int), v5 = .int .i64 x5_1 ∧ Aside0 (hornbookref3_Has.l0 kq l0 a1 x5_1 = some r) ∧ Aside0 (kq ≤ k) ∧ Aside0 (Below w.heap.size w w'))
 case atStart => exact ⟨(0), (by first | rfl | (simp; done) | (simp [*]; done)), H', ⟨Nat.le_refl _⟩, ⟨by repeat (first | (with_reducible first | exact HB.out | apply below_alloc | apply pw_below_drewN | apply below_drew1) | exact HB.out)⟩⟩
 case round =>
  clear H'
  try clear c1
  try clear p2
  obtain ⟨x5_1, rfl, HA, HK1, HB⟩ := hrel
  cases gk with
  | zero => exact absurd HA.out (by simp [hornbookref3_Has.l0])
  | succ k1 =>
   have H := HA.out
   clear HA
   simp only [hornbookref3_Has.l0] at H
   by_cases c3 : x5_1 < (l0.length : Int)
   ·rw [if_pos c3] at H
    have c3b0 : decide (x5_1 < (l0.length : Int)) = true := decide_eq_true c3
    clear c3
    by_cases c4 : 0 ≤ x5_1
    ·rw [if_pos c4] at H
     have c4b0 : decide (0 ≤ x5_1) = true := decide_eq_true c4
     clear c4
     replace H := Option.bind_eq_some_iff.mp H
     obtain ⟨t296, A50, H⟩ := H
     replace H : (if t296 = true then (if ((rd_T41 l0 x5_1).f0) ≤ a1 then (if a1 ≤ ((rd_T41 l0 x5_1).f1) then (some true) else (hornbookref3_Has.l0 k1 l0 a1 (wrap64 (x5_1 + 1)))) else (hornbookref3_Has.l0 k1 l0 a1 (wrap64 (x5_1 + 1)))) else (hornbookref3_Has.l0 k1 l0 a1 (wrap64 (x5_1 + 1)))) = some r := H
     have A5 := Aside0.mk A50
     clear A50
     by_cases c6 : t296 = true
     ·subst c6
      have H1 : (if ((rd_T41 l0 x5_1).f0) ≤ a1 then (if a1 ≤ ((rd_T41 l0 x5_1).f1) then (some true) else (hornbookref3_Has.l0 k1 l0 a1 (wrap64 (x5_1 + 1)))) else (hornbookref3_Has.l0 k1 l0 a1 (wrap64 (x5_1 + 1)))) = some r := by rw [if_pos rfl] at H; exact H
      clear H
      have H := H1
      clear H1
      by_cases c7 : ((rd_T41 l0 x5_1).f0) ≤ a1
      ·rw [if_pos c7] at H
       have c7b0 : decide (((rd_T41 l0 x5_1).f0) ≤ a1) = true := decide_eq_true c7
       clear c7
       by_cases c8 : a1 ≤ ((rd_T41 l0 x5_1).f1)
       ·rw [if_pos c8] at H
        have c8b0 : decide (a1 ≤ ((rd_T41 l0 x5_1).f1)) = true := decide_eq_true c8
        clear c8
        obtain rfl := Option.some.inj H
        have p295 : 0 ≤ (x5_1 : Int) := of_decide_eq_true (by first | (with_reducible assumption) | assumption)
        have q295 : x5_1 < (l0.length : Int) := of_decide_eq_true (by first | (with_reducible assumption) | assumption)
        obtain ⟨ad295, e295, hx295_0, hx295_1⟩ := at_T41 HR0.out x5_1 p295 q295
        cases e295
        replace hx295_0 := (HB.out.cell (World.block_lt_of_cell? w _ hx295_0)).trans hx295_0
        replace hx295_1 := (HB.out.cell (World.block_lt_of_cell? w _ hx295_1)).trans hx295_1
        replace p295 := eq_true p295
        replace q295 := eq_true q295
        go_wp2_with (first | ((with_reducible refine gate_callee (f := 42) rfl ?_); refine goesL_ (some 16) rfl rfl Try.func42 (by kernel_rfl) rfl #[.agg #[.int .i32 ((rd_T41 l0 x5_1).f0), .int .i32 ((rd_T41 l0 x5_1).f1)]] rfl (by (try simp only [List.map_toArray, List.map_cons, List.map_nil]); first | done | rfl | (simp only [List.length_drop, List.length_take]; rfl)) ?_; (with_reducible refine (hornbookref3_good.calls ((rd_T41 l0 x5_1).f0) ((rd_T41 l0 x5_1).f1) true _ A5.out).mono ?_); rintro e w9 ⟨rfl, hb⟩; refine ⟨_, rfl, ?_⟩; have n0_ := Aside0.mk (below_step (by repeat (first | (with_reducible first | exact HB.out | apply below_alloc | apply pw_below_drewN | apply below_drew1) | exact HB.out)) hb); clear HB; have HB := n0_; clear n0_; (try clear hb); (try clear hb2); (try clear hk); (try clear hi); have p297 : 0 ≤ (x5_1 : Int) := of_decide_eq_true (by first | (with_reducible assumption) | assumption); have q297 : x5_1 < (l0.length : Int) := of_decide_eq_true (by first | (with_reducible assumption) | assumption); obtain ⟨ad297, e297, hx297_0, hx297_1⟩ := at_T41 HR0.out x5_1 p297 q297; obtain rfl : ad295 = ad297 := (by injection e297); replace hx297_0 := (HB.out.cell (World.block_lt_of_cell? w _ hx297_0)).trans hx297_0; replace hx297_1 := (HB.out.cell (World.block_lt_of_cell? w _ hx297_1)).trans hx297_1; replace p297 := eq_true p297; replace q297 := eq_true q297; have p298 : 0 ≤ (x5_1 : Int) := of_decide_eq_true (by first | (with_reducible assumption) | assumption); have q298 : x5_1 < (l0.length : Int) := of_decide_eq_true (by first | (with_reducible assumption) | assumption); obtain ⟨ad298, e298, hx298_0, hx298_1⟩ := at_T41 HR0.out x5_1 p298 q298; obtain rfl : ad295 = ad298 := (by injection e298); replace hx298_0 := (HB.out.cell (World.block_lt_of_cell? w _ hx298_0)).trans hx298_0; replace hx298_1 := (HB.out.cell (World.block_lt_of_cell? w _ hx298_1)).trans hx298_1; replace p298 := eq_true p298; replace q298 := eq_true q298))
        go_ret
        exact ⟨by first | rfl | (simp [errW_none, errW_some] <;> rfl) | (simp [*, errW_none, errW_some] <;> rfl), by repeat (first | (with_reducible first | exact HB.out | apply below_alloc | apply pw_below_drewN | apply below_drew1) | exact HB.out)⟩
       ·rw [if_neg c8] at H
        have c8b0 : decide (a1 ≤ ((rd_T41 l0 x5_1).f1)) = false := decide_eq_false c8
        clear c8
        have H' := Aside0.mk H
        clear H
        have p295 : 0 ≤ (x5_1 : Int) := of_decide_eq_true (by first | (with_reducible assumption) | assumption)
        have q295 : x5_1 < (l0.length : Int) := of_decide_eq_true (by first | (with_reducible assumption) | assumption)
        obtain ⟨ad295, e295, hx295_0, hx295_1⟩ := at_T41 HR0.out x5_1 p295 q295
        cases e295
        replace hx295_0 := (HB.out.cell (World.block_lt_of_cell? w _ hx295_0)).trans hx295_0
        replace hx295_1 := (HB.out.cell (World.block_lt_of_cell? w _ hx295_1)).trans hx295_1
        replace p295 := eq_true p295
        replace q295 := eq_true q295
        go_wp2_with (first | ((with_reducible refine gate_callee (f := 42) rfl ?_); refine goesL_ (some 16) rfl rfl Try.func42 (by kernel_rfl) rfl #[.agg #[.int .i32 ((rd_T41 l0 x5_1).f0), .int .i32 ((rd_T41 l0 x5_1).f1)]] rfl (by (try simp only [List.map_toArray, List.map_cons, List.map_nil]); first | done | rfl | (simp only [List.length_drop, List.length_take]; rfl)) ?_; (with_reducible refine (hornbookref3_good.calls ((rd_T41 l0 x5_1).f0) ((rd_T41 l0 x5_1).f1) true _ A5.out).mono ?_); rintro e w10 ⟨rfl, hb⟩; refine ⟨_, rfl, ?_⟩; have n0_ := Aside0.mk (below_step (by repeat (first | (with_reducible first | exact HB.out | apply below_alloc | apply pw_below_drewN | apply below_drew1) | exact HB.out)) hb); clear HB; have HB := n0_; clear n0_; (try clear hb); (try clear hb2); (try clear hk); (try clear hi); have p297 : 0 ≤ (x5_1 : Int) := of_decide_eq_true (by first | (with_reducible assumption) | assumption); have q297 : x5_1 < (l0.length : Int) := of_decide_eq_true (by first | (with_reducible assumption) | assumption); obtain ⟨ad297, e297, hx297_0, hx297_1⟩ := at_T41 HR0.out x5_1 p297 q297; obtain rfl : ad295 = ad297 := (by injection e297); replace hx297_0 := (HB.out.cell (World.block_lt_of_cell? w _ hx297_0)).trans hx297_0; replace hx297_1 := (HB.out.cell (World.block_lt_of_cell? w _ hx297_1)).trans hx297_1; replace p297 := eq_true p297; replace q297 := eq_true q297; have p298 : 0 ≤ (x5_1 : Int) := of_decide_eq_true (by first | (with_reducible assumption) | assumption); have q298 : x5_1 < (l0.length : Int) := of_decide_eq_true (by first | (with_reducible assumption) | assumption); obtain ⟨ad298, e298, hx298_0, hx298_1⟩ := at_T41 HR0.out x5_1 p298 q298; obtain rfl : ad295 = ad298 := (by injection e298); replace hx298_0 := (HB.out.cell (World.block_lt_of_cell? w _ hx298_0)).trans hx298_0; replace hx298_1 := (HB.out.cell (World.block_lt_of_cell? w _ hx298_1)).trans hx298_1; replace p298 := eq_true p298; replace q298 := eq_true q298))
        go_roundg k1
        case measure => have := HK1.out; omega
        case rel => exact ⟨(wrap64 (x5_1 + 1)), (by first | rfl | (simp; done) | (simp [*]; done)), H', ⟨by have := HK1.out; omega⟩, ⟨by repeat (first | (with_reducible first | exact HB.out | apply below_alloc | apply pw_below_drewN | apply below_drew1) | exact HB.out)⟩⟩
      ·rw [if_neg c7] at H
       have c7b0 : decide (((rd_T41 l0 x5_1).f0) ≤ a1) = false := decide_eq_false c7
       clear c7
       have H' := Aside0.mk H
       clear H
       have p295 : 0 ≤ (x5_1 : Int) := of_decide_eq_true (by first | (with_reducible assumption) | assumption)
       have q295 : x5_1 < (l0.length : Int) := of_decide_eq_true (by first | (with_reducible assumption) | assumption)
       obtain ⟨ad295, e295, hx295_0, hx295_1⟩ := at_T41 HR0.out x5_1 p295 q295
       cases e295
       replace hx295_0 := (HB.out.cell (World.block_lt_of_cell? w _ hx295_0)).trans hx295_0
       replace hx295_1 := (HB.out.cell (World.block_lt_of_cell? w _ hx295_1)).trans hx295_1
       replace p295 := eq_true p295
       replace q295 := eq_true q295
       go_wp2_with (first | ((with_reducible refine gate_callee (f := 42) rfl ?_); refine goesL_ (some 16) rfl rfl Try.func42 (by kernel_rfl) rfl #[.agg #[.int .i32 ((rd_T41 l0 x5_1).f0), .int .i32 ((rd_T41 l0 x5_1).f1)]] rfl (by (try simp only [List.map_toArray, List.map_cons, List.map_nil]); first | done | rfl | (simp only [List.length_drop, List.length_take]; rfl)) ?_; (with_reducible refine (hornbookref3_good.calls ((rd_T41 l0 x5_1).f0) ((rd_T41 l0 x5_1).f1) true _ A5.out).mono ?_); rintro e w11 ⟨rfl, hb⟩; refine ⟨_, rfl, ?_⟩; have n0_ := Aside0.mk (below_step (by repeat (first | (with_reducible first | exact HB.out | apply below_alloc | apply pw_below_drewN | apply below_drew1) | exact HB.out)) hb); clear HB; have HB := n0_; clear n0_; (try clear hb); (try clear hb2); (try clear hk); (try clear hi); have p297 : 0 ≤ (x5_1 : Int) := of_decide_eq_true (by first | (with_reducible assumption) | assumption); have q297 : x5_1 < (l0.length : Int) := of_decide_eq_true (by first | (with_reducible assumption) | assumption); obtain ⟨ad297, e297, hx297_0, hx297_1⟩ := at_T41 HR0.out x5_1 p297 q297; obtain rfl : ad295 = ad297 := (by injection e297); replace hx297_0 := (HB.out.cell (World.block_lt_of_cell? w _ hx297_0)).trans hx297_0; replace hx297_1 := (HB.out.cell (World.block_lt_of_cell? w _ hx297_1)).trans hx297_1; replace p297 := eq_true p297; replace q297 := eq_true q297))
       go_roundg k1
       case measure => have := HK1.out; omega
       case rel => exact ⟨(wrap64 (x5_1 + 1)), (by first | rfl | (simp; done) | (simp [*]; done)), H', ⟨by have := HK1.out; omega⟩, ⟨by repeat (first | (with_reducible first | exact HB.out | apply below_alloc | apply pw_below_drewN | apply below_drew1) | exact HB.out)⟩⟩
     ·replace c6 := Bool.eq_false_iff.mpr c6
      subst c6
      have H1 : (hornbookref3_Has.l0 k1 l0 a1 (wrap64 (x5_1 + 1))) = some r := by rw [if_neg (show ¬ (false = true) by decide)] at H; exact H
      clear H
      have H := H1
      clear H1
      have H' := Aside0.mk H
      clear H
      have p295 : 0 ≤ (x5_1 : Int) := of_decide_eq_true (by first | (with_reducible assumption) | assumption)
      have q295 : x5_1 < (l0.length : Int) := of_decide_eq_true (by first | (with_reducible assumption) | assumption)
      obtain ⟨ad295, e295, hx295_0, hx295_1⟩ := at_T41 HR0.out x5_1 p295 q295
      cases e295
      replace hx295_0 := (HB.out.cell (World.block_lt_of_cell? w _ hx295_0)).trans hx295_0
      replace hx295_1 := (HB.out.cell (World.block_lt_of_cell? w _ hx295_1)).trans hx295_1
      replace p295 := eq_true p295
      replace q295 := eq_true q295
      go_wp2_with (first | ((with_reducible refine gate_callee (f := 42) rfl ?_); refine goesL_ (some 16) rfl rfl Try.func42 (by kernel_rfl) rfl #[.agg #[.int .i32 ((rd_T41 l0 x5_1).f0), .int .i32 ((rd_T41 l0 x5_1).f1)]] rfl (by (try simp only [List.map_toArray, List.map_cons, List.map_nil]); first | done | rfl | (simp only [List.length_drop, List.length_take]; rfl)) ?_; (with_reducible refine (hornbookref3_good.calls ((rd_T41 l0 x5_1).f0) ((rd_T41 l0 x5_1).f1) false _ A5.out).mono ?_); rintro e w12 ⟨rfl, hb⟩; refine ⟨_, rfl, ?_⟩; have n0_ := Aside0.mk (below_step (by repeat (first | (with_reducible first | exact HB.out | apply below_alloc | apply pw_below_drewN | apply below_drew1) | exact HB.out)) hb); clear HB; have HB := n0_; clear n0_; (try clear hb); (try clear hb2); (try clear hk); (try clear hi)))
      go_roundg k1
      case measure => have := HK1.out; omega
      case rel => exact ⟨(wrap64 (x5_1 + 1)), (by first | rfl | (simp; done) | (simp [*]; done)), H', ⟨by have := HK1.out; omega⟩, ⟨by repeat (first | (with_reducible first | exact HB.out | apply below_alloc | apply pw_below_drewN | apply below_drew1) | exact HB.out)⟩⟩
    ·rw [if_neg c4] at H
     exact absurd H (by simp)
   ·rw [if_neg c3] at H
    have c3b0 : decide (x5_1 < (l0.length : Int)) = false := decide_eq_false c3
    clear c3
    obtain rfl := Option.some.inj H
    go_wp2
    go_ret
    exact ⟨by first | rfl | (simp [errW_none, errW_some] <;> rfl) | (simp [*, errW_none, errW_some] <;> rfl), by repeat (first | (with_reducible first | exact HB.out | apply below_alloc | apply pw_below_drewN | apply below_drew1) | exact HB.out)⟩

end Go.Proofs.Ytnfnnmmblommiaa.PA
