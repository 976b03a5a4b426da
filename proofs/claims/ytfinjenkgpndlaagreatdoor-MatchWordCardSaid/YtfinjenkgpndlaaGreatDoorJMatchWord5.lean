/- The tied card of MatchWord: for each input that the row speaks of the law's function returns true, and its arguments read as they read before; the conditions are the row's own. Part 5 of 6. -/
import Derived.Test.YtfinjenkgpndlaaGreatDoorJMatchWord4
import Derived.Deep.RegionLaw
import Derived.Maps.Range
import Derived.IntWalk
import Derived.Deep.RegionHeld3
namespace Go.Proofs.YtfinjenkgpndlaaGreatDoor.PA
open Go.RowKit Go.Shelf Go.Proofs.YtfinjenkgpndlaaGreatDoorW.PrintWords Go.Proofs.YtfinjenkgpndlaaGreatDoorW.PrintLast Go.Proofs.YtfinjenkgpndlaaGreatDoorW.PrintMore
attribute [local go_sem] Oper.semAt_some
set_option linter.unusedVariables false
set_option linter.unusedSimpArgs false

structure NdAt (w : World) (A2 A4 : Option Addr) (c2 c4 : Nat) (e : Nd) : Prop where
  l2 : e.f2.length ≤ c2
  l4 : e.f4.length ≤ c4
  C2 : Kd.C k58 w A2 e.f2.length e.f2
  C4 : Kd.C k26 w A4 e.f4.length e.f4
theorem NdAt.below {w w1 : World} {A2 A4 : Option Addr} {c2 c4 : Nat} {e : Nd} (h : NdAt w A2 A4 c2 c4 e) (hb : Below w.heap.size w w1) : NdAt w1 A2 A4 c2 c4 e := ⟨h.l2, h.l4, Kd.C_below h.C2 hb, Kd.C_below h.C4 hb⟩
theorem Is_calls2 (e : Nd) (hv : noV e = true) (w : World) {A2 A4 : Option Addr} {c2 c4 : Nat} (h : NdAt w A2 A4 c2 c4 e) :
    Calls Tryz.prog 24 #[.agg #[.int .i64 e.f0, .int .i64 e.f1, .slice A2 e.f2.length c2, .string e.f3, .slice A4 e.f4.length c4]] w fun q w' => q = .returned (.bool (isN e)) ∧ Below w.heap.size w w' :=
  callsIn_wide.1 (is_in 3 (Nat.le_refl _) e (fun x hx h2 => absurd h2 (noV_iff.1 hv x hx)) w h.l2 h.l4 h.C2 h.C4)
set_option maxRecDepth 100000 in
set_option maxHeartbeats 4000000 in
theorem mis_calls (e : Nd) (hv : noV e = true) (w : World) {A2 A4 : Option Addr} {c2 c4 : Nat} (h : NdAt w A2 A4 c2 c4 e) :
    Calls Tryz.prog 76 #[.agg #[.int .i64 e.f0, .int .i64 e.f1, .slice A2 e.f2.length c2, .string e.f3, .slice A4 e.f4.length c4]] w fun q w' => q = .returned (.bool (isN e)) ∧ Below w.heap.size w w' := by
  obtain ⟨u1, q1⟩ : ∃ u1, w.alloc (.cells #[.int .i64 e.f0, .int .i64 e.f1, .slice A2 e.f2.length c2, .string e.f3, .slice A4 e.f4.length c4] 26) = u1 := ⟨_, rfl⟩
  have v1 : Below w.heap.size w u1 := by rw [← q1]; exact (Below.refl _ w).alloc (Nat.le_refl _) _
  have m1 : u1.heap[w.heap.size]? = some (.cells #[.int .i64 e.f0, .int .i64 e.f1, .slice A2 e.f2.length c2, .string e.f3, .slice A4 e.f4.length c4] 26 (0, 0)) := by rw [← q1]; exact heap_alloc_new w _
  have d0 := (blk_cell m1 0).trans rfl
  have d1 := (blk_cell m1 1).trans rfl
  have d2 := (blk_cell m1 2).trans rfl
  have d3 := (blk_cell m1 3).trans rfl
  have d4 := (blk_cell m1 4).trans rfl
  have H1 := Lib.hid (Is_calls2 e hv u1 (h.below v1))
  have H2 := Lib.hid (fun (W9 : World) (h9 : Below u1.heap.size u1 W9) => names_calls e hv W9 A2 A4 c2 c4 h.l2 h.l4 ((h.below v1).below h9).C2 ((h.below v1).below h9).C4)
  have HM := Lib.hid m1
  have HV := Lib.hid v1
  clear m1 v1 h hv
  generalize hq : isN e = q at H1 ⊢
  clear hq
  go_enter Tryz.func76, Tryz.ntmps76
  go_wp2_with fail
  refine H1.out.mono ?_
  rintro e' w2 ⟨rfl, hb2⟩
  have HB2 := Lib.hid hb2
  have hm2 := (hb2.block _ (blk_lt HM.out)).trans HM.out
  have d0' := (blk_cell hm2 0).trans rfl
  have d1' := (blk_cell hm2 1).trans rfl
  have d2' := (blk_cell hm2 2).trans rfl
  have d3' := (blk_cell hm2 3).trans rfl
  have d4' := (blk_cell hm2 4).trans rfl
  clear hb2 hm2 H1
  cases q with
  | false =>
    go_wp2
    go_ret
    exact ⟨rfl, HV.out.trans (HB2.out.mono HV.out.size)⟩
  | true =>
    go_wp2_with fail
    refine (H2.out _ HB2.out).mono ?_
    rintro e' w3 ⟨rfl, hb3⟩
    have HB3 := Lib.hid hb3
    clear hb3 H2
    go_wp2
    go_ret
    exact ⟨rfl, HV.out.trans ((HB2.out.trans (HB3.out.mono HB2.out.size)).mono HV.out.size)⟩
theorem iter_map {α β : Type} {T : List Nat} {P : Program} {B0 gf : Nat} {lb : Array Value} {enc : β → Array Value} {f : α → β} {xs : List α} {W : World} (h : Iter T P B0 gf lb (fun a => enc (f a)) xs W) : Iter T P B0 gf lb enc (xs.map f) W := by
  intro l J Jx hJ hJx hY h0 n
  rw [List.length_map]
  exact h l J Jx hJ hJx (fun i x A hx hj m => hY i (f x) A (by rw [List.getElem?_map, hx]; rfl) hj m) h0 n
def atL (x : List Int) (i : Nat) : List Bool := (noneL x).set i true
theorem at_len (x : List Int) (i : Nat) : (atL x i).length = x.length + 1 := by simp [atL, noneL]
theorem on_at {x : List Int} {i : Nat} (hi : i ≤ x.length) (j : Nat) : on (atL x i) j ↔ j = i := by
  unfold atL
  rw [on_set (by simp [noneL]; omega)]
  constructor
  · rintro (h | h)
    · exact absurd h (on_none x j)
    · exact h
  · exact .inr
theorem ends_places {x : List Int} {e : Nd} {i : Nat} {ds : List Bool} (hok : Ok e) (hi : i ≤ x.length) (h : LeadsTo x false e (atL x i) ds) : placesL ds = (List.range (x.length + 1)).filter fun j => mtB x e i j := by
  unfold placesL
  rw [h.len]
  apply List.filter_congr
  intro j _
  have h1 : on ds j ↔ mtB x e i j = true := by
    rw [h.iff, mtB_iff hok hi]
    constructor
    · rintro ⟨k, h1, h2⟩; rw [(on_at hi k).1 h1] at h2; exact h2
    · intro h2; exact ⟨i, (on_at hi i).2 rfl, h2⟩
  unfold on at h1
  cases hc : ds.getD j false <;> cases hd : mtB x e i j <;> simp_all
theorem begins_places {x : List Int} {e : Nd} {i : Nat} {ds : List Bool} (hok : Ok e) (hi : i ≤ x.length) (h : LeadsTo x true e (atL x i) ds) : placesL ds = (List.range (x.length + 1)).filter fun j => mtB x e j i := by
  unfold placesL
  rw [h.len]
  apply List.filter_congr
  intro j hj
  have hj' : j ≤ x.length := by have := List.mem_range.1 hj; omega
  have h1 : on ds j ↔ mtB x e j i = true := by
    rw [h.iff, mtB_iff hok hj']
    constructor
    · rintro ⟨k, h1, h2⟩; rw [(on_at hi k).1 h1] at h2; exact h2
    · intro h2; exact ⟨i, (on_at hi i).2 rfl, h2⟩
  unfold on at h1
  cases hc : ds.getD j false <;> cases hd : mtB x e j i <;> simp_all
set_option maxRecDepth 100000 in
set_option maxHeartbeats 4000000 in
theorem leads_calls (x : List Int) (back : Bool) (At : Option Addr) (ct : Nat) (e : Nd) (hv : noV e = true) (hk : isN e = true) (i : Nat) (hi : i ≤ x.length) (w : World) (A2 A4 : Option Addr) (c2 c4 : Nat) (hN : NdAt w A2 A4 c2 c4 e) (hT : TxAt w At ct x) :
    Calls Tryz.prog 52 #[.agg #[.int .i64 e.f0, .int .i64 e.f1, .slice A2 e.f2.length c2, .string e.f3, .slice A4 e.f4.length c4], .slice At x.length ct, .int .i64 i, .bool back] w fun r w' =>
      ∃ (v : Value) (ds : List Bool), r = .returned v ∧ LeadsTo x back e (atL x i) ds ∧ Kd.R (Kd.int .i64) 3 w' w.heap.size (fun _ => True) v ((placesL ds).map fun (j : Nat) => (j : Int)) ∧ Below w.heap.size w w' := by
  have hlx := hT.len
  obtain ⟨u1, q1⟩ : ∃ u1, w.alloc (.cells #[.int .i64 e.f0, .int .i64 e.f1, .slice A2 e.f2.length c2, .string e.f3, .slice A4 e.f4.length c4] 26) = u1 := ⟨_, rfl⟩
  have v1 : Below w.heap.size w u1 := by rw [← q1]; exact (Below.refl _ w).alloc (Nat.le_refl _) _
  have m1 : u1.heap[w.heap.size]? = some (.cells #[.int .i64 e.f0, .int .i64 e.f1, .slice A2 e.f2.length c2, .string e.f3, .slice A4 e.f4.length c4] 26 (0, 0)) := by rw [← q1]; exact heap_alloc_new w _
  have d0 := (blk_cell m1 0).trans rfl
  have d1 := (blk_cell m1 1).trans rfl
  have d2 := (blk_cell m1 2).trans rfl
  have d3 := (blk_cell m1 3).trans rfl
  have d4 := (blk_cell m1 4).trans rfl
  have H1 := Lib.hid (mis_calls e hv u1 (hN.below v1))
  have HM := Lib.hid m1
  have HV := Lib.hid v1
  have HN := Lib.hid (hN.below v1)
  have HT := Lib.hid (hT.below v1)
  have HOK := Lib.hid (ok_of hk hv)
  have b0 : decide ((i : Int) < 0) = false := decide_eq_false (by omega)
  have b1 : decide ((i : Int) > (x.length : Int)) = false := decide_eq_false (by omega)
  have b2 : decide ((x.length : Int) < (i : Int)) = false := decide_eq_false (by omega)
  have HK := Lib.hid hk
  clear m1 v1 hN hT hv
  rw [hk] at H1
  clear hk
  go_enter Tryz.func52, Tryz.ntmps52
  go_wp2_with fail
  refine H1.out.mono ?_
  rintro e' w2 ⟨rfl, hb2⟩
  have hm2 := (hb2.block _ (blk_lt HM.out)).trans HM.out
  have HB2 := Lib.hid hb2
  clear hb2 H1
  obtain ⟨w3, q3⟩ : ∃ w3, w2.alloc (.cells #[.slice At x.length ct, .bool back] 121) = w3 := ⟨_, rfl⟩
  have v3 : Below w2.heap.size w2 w3 := by rw [← q3]; exact (Below.refl _ w2).alloc (Nat.le_refl _) _
  have m3 : w3.heap[w2.heap.size]? = some (.cells #[.slice At x.length ct, .bool back] 121 (0, 0)) := by rw [← q3]; exact heap_alloc_new w2 _
  have c0 : w3.cell? ⟨w2.heap.size, 0, none⟩ = some (.slice At x.length ct) := (blk_cell m3 0).trans rfl
  have c1 : w3.cell? ⟨w2.heap.size, 1, none⟩ = some (.bool back) := (blk_cell m3 1).trans rfl
  have hb3 : Below u1.heap.size u1 w3 := HB2.out.trans (v3.mono HB2.out.size)
  have H2 := Lib.hid (match_walker_none.calls At ct x back _ w3 (HT.out.below hb3).row HT.out.cap (none_f x back hlx))
  have HM3 := Lib.hid (And.intro m3 ((v3.block _ (blk_lt hm2)).trans hm2))
  have HB3 := Lib.hid hb3
  clear hm2 v3 m3 hb3
  go_wp2_with fail
  refine H2.out.mono ?_
  rintro e' w4 ⟨v, rfl, hR, hb4⟩
  have hnl : (noneL x).length = x.length + 1 := by simp [noneL]
  obtain ⟨g, cg, rfl, hcg, hg, _, _⟩ := boolrow hR (by omega)
  obtain ⟨⟨u, hu⟩, hf, hR5, hb5, _⟩ := mark_row hR hg i (by omega)
  obtain ⟨w5, q5⟩ : ∃ w5, w4.setCell ⟨g, i, none⟩ (.bool true) = w5 := ⟨_, rfl⟩
  rw [q5] at hR5 hb5
  have hb35 : Below w3.heap.size w3 w5 := hb4.trans (hb5 _ hg)
  rw [hnl] at hR5 hcg ⊢
  have hlt : (i : Int) < ((x.length : Int) + 1) := by omega
  obtain ⟨g', cg', e1, _, _, _, hC5⟩ := boolrow (bs := atL x i) hR5 (by rw [at_len]; omega)
  rw [at_len] at e1
  cases e1
  have n3 := (hb35.block _ (blk_lt HM3.out.1)).trans HM3.out.1
  have n1 := (hb35.block _ (blk_lt HM3.out.2)).trans HM3.out.2
  have c0' : w5.cell? ⟨w2.heap.size, 0, none⟩ = some (.slice At x.length ct) := (blk_cell n3 0).trans rfl
  have c1' : w5.cell? ⟨w2.heap.size, 1, none⟩ = some (.bool back) := (blk_cell n3 1).trans rfl
  have d0' := (blk_cell n1 0).trans rfl
  have d1' := (blk_cell n1 1).trans rfl
  have d2' := (blk_cell n1 2).trans rfl
  have d3' := (blk_cell n1 3).trans rfl
  have d4' := (blk_cell n1 4).trans rfl
  have hbu5 : Below u1.heap.size u1 w5 := HB3.out.trans (hb35.mono HB3.out.size)
  have H3 := Lib.hid (walk_ok x back At ct e HOK.out w5 A2 A4 c2 c4 g 0 cg (atL x i) (HT.out.below hbu5) (HN.out.below hbu5).l2 (HN.out.below hbu5).l4 (HN.out.below hbu5).C2 (HN.out.below hbu5).C4 (at_len x i) (by rw [at_len]; exact hcg) hC5)
  rw [at_len] at H3
  have HU5 := Lib.hid hbu5
  clear hR hb4 hnl hR5 hb5 hb35 hC5 n3 n1 hbu5 H2 hg
  go_wp2_with fail
  refine H3.out.mono ?_
  rintro e' w6 ⟨b', o', c', ds, rfl, hc', hLd, hCd, hb6⟩
  have hdl : ds.length < 1000000000 := by rw [hLd.len]; omega
  have hb' : b' < w6.heap.size := by obtain ⟨b'', o'', e'', h''⟩ := C_plain hCd (by rw [hLd.len]; omega) (by decide); cases e''; exact h''
  have HAll := Lib.hid (spots_all_calls (.slice (some ⟨b', o', none⟩) ds.length c') w6 b' o' ds.length c' rfl)
  have hcol := fun W7 (h7 : w6.alloc (.cells #[.slice (some ⟨b', o', none⟩) ds.length c'] 123) = W7) => collect_calls 108 #[.pointer (some ⟨w6.heap.size, 0, none⟩)] ((placesL ds).map fun (j : Nat) => (j : Int)) (by rw [List.length_map]; exact Nat.lt_of_le_of_lt (List.length_filter_le _ _) (by rw [List.length_range]; exact hdl)) (enters_of Tryz.func108 (by kernel_rfl) rfl) W7
    (fun W8 h8 => iter_map (enc := fun j : Int => #[Value.int .i64 j]) (f := fun (j : Nat) => (j : Int)) (spots_iter TI W7.heap.size w6.heap.size b' o' c' ds (by rw [← h7]; simp; omega) hdl W8 ((h8.block _ (by rw [← h7]; simp)).trans (by rw [← h7]; exact heap_alloc_new w6 _)) (Kd.C_below (Kd.C_below hCd (by rw [← h7]; exact (Below.refl _ w6).alloc (Nat.le_refl _) _)) h8)))
  have HCOL := Lib.hid hcol
  have HX := Lib.hid (And.intro hLd hb6)
  clear hcol hLd hCd hb6 H3
  go_wp2_with fail
  refine HAll.out.mono ?_
  rintro e' w7 ⟨rfl, rfl⟩
  go_wp2_with fail
  refine (HCOL.out _ rfl).mono ?_
  rintro e' w8 ⟨v, rfl, hR8, hb8⟩
  have hb7 : Below w6.heap.size w6 (w6.alloc (.cells #[.slice (some ⟨b', o', none⟩) ds.length c'] 123)) := (Below.refl _ w6).alloc (Nat.le_refl _) _
  have hbu8 : Below u1.heap.size u1 w8 := (HU5.out.trans (HX.out.2.mono HU5.out.size)).trans ((hb7.trans (hb8.mono hb7.size)).mono (Nat.le_trans HU5.out.size HX.out.2.size))
  have hsz : w.heap.size ≤ (w6.alloc (.cells #[.slice (some ⟨b', o', none⟩) ds.length c'] 123)).heap.size := Nat.le_trans HV.out.size (Nat.le_trans HU5.out.size (Nat.le_trans HX.out.2.size hb7.size))
  have HR8 := Lib.hid (And.intro hR8 (And.intro hbu8 hsz))
  clear hR8 hb8 hb7 hbu8 hsz
  go_wp2
  go_ret
  exact ⟨v, ds, rfl, HX.out.1, Kd.R_lower HR8.out.1 HR8.out.2.2, HV.out.trans (HR8.out.2.1.mono HV.out.size)⟩
set_option maxRecDepth 100000 in
set_option maxHeartbeats 4000000 in
theorem leads_nil (x : List Int) (back : Bool) (At : Option Addr) (ct : Nat) (e : Nd) (hv : noV e = true) (i : Int) (hi : i < 0 ∨ (x.length : Int) < i ∨ isN e = false) (w : World) (A2 A4 : Option Addr) (c2 c4 : Nat) (hN : NdAt w A2 A4 c2 c4 e) (hT : TxAt w At ct x) :
    Calls Tryz.prog 52 #[.agg #[.int .i64 e.f0, .int .i64 e.f1, .slice A2 e.f2.length c2, .string e.f3, .slice A4 e.f4.length c4], .slice At x.length ct, .int .i64 i, .bool back] w fun r w' => r = .returned (.slice none 0 0) ∧ Below w.heap.size w w' := by
  have hlx := hT.len
  obtain ⟨u1, q1⟩ : ∃ u1, w.alloc (.cells #[.int .i64 e.f0, .int .i64 e.f1, .slice A2 e.f2.length c2, .string e.f3, .slice A4 e.f4.length c4] 26) = u1 := ⟨_, rfl⟩
  have v1 : Below w.heap.size w u1 := by rw [← q1]; exact (Below.refl _ w).alloc (Nat.le_refl _) _
  have m1 : u1.heap[w.heap.size]? = some (.cells #[.int .i64 e.f0, .int .i64 e.f1, .slice A2 e.f2.length c2, .string e.f3, .slice A4 e.f4.length c4] 26 (0, 0)) := by rw [← q1]; exact heap_alloc_new w _
  have d0 := (blk_cell m1 0).trans rfl
  have d1 := (blk_cell m1 1).trans rfl
  have d2 := (blk_cell m1 2).trans rfl
  have d3 := (blk_cell m1 3).trans rfl
  have d4 := (blk_cell m1 4).trans rfl
  have H1 := Lib.hid (mis_calls e hv u1 (hN.below v1))
  have HV := Lib.hid v1
  clear m1 v1 hN hT hv
  by_cases h0 : i < 0
  · have b0 : decide (i < 0) = true := decide_eq_true h0
    clear h0 hi H1
    go_enter Tryz.func52, Tryz.ntmps52
    go_wp2
    go_ret
    exact ⟨rfl, HV.out⟩
  have b0 : decide (i < 0) = false := decide_eq_false h0
  by_cases h1 : (x.length : Int) < i
  · have b1 : decide (i > (x.length : Int)) = true := decide_eq_true h1
    have b2 : decide ((x.length : Int) < i) = true := decide_eq_true h1
    clear h0 hi h1 H1
    go_enter Tryz.func52, Tryz.ntmps52
    go_wp2
    go_ret
    exact ⟨rfl, HV.out⟩
  have b1 : decide (i > (x.length : Int)) = false := decide_eq_false h1
  have b2 : decide ((x.length : Int) < i) = false := decide_eq_false h1
  have hk : isN e = false := by
    rcases hi with h | h | h
    · exact absurd h h0
    · exact absurd h h1
    · exact h
  rw [hk] at H1
  clear hi h0 h1 hk
  go_enter Tryz.func52, Tryz.ntmps52
  go_wp2_with fail
  refine H1.out.mono ?_
  rintro e' w2 ⟨rfl, hb2⟩
  have HB2 := Lib.hid hb2
  clear hb2 H1
  go_wp2
  go_ret
  exact ⟨rfl, HV.out.trans (HB2.out.mono HV.out.size)⟩
def leadsM (back : Bool) (e : Nd) (x : List Int) (i : Int) : List Int := if back = true then beginsM e x i else endsM e x i
theorem leads_told (x : List Int) (back : Bool) (At : Option Addr) (ct : Nat) (e : Nd) (hv : noV e = true) (i : Int) (w : World) (A2 A4 : Option Addr) (c2 c4 : Nat) (hN : NdAt w A2 A4 c2 c4 e) (hT : TxAt w At ct x) :
    Calls Tryz.prog 52 #[.agg #[.int .i64 e.f0, .int .i64 e.f1, .slice A2 e.f2.length c2, .string e.f3, .slice A4 e.f4.length c4], .slice At x.length ct, .int .i64 i, .bool back] w fun r w' =>
      ∃ v : Value, r = .returned v ∧ Kd.R (Kd.int .i64) 3 w' w.heap.size (fun _ => True) v (leadsM back e x i) ∧ Below w.heap.size w w' := by
  by_cases hi : i < 0 ∨ (x.length : Int) < i ∨ isN e = false
  · refine (leads_nil x back At ct e hv i hi w A2 A4 c2 c4 hN hT).mono ?_
    rintro r w' ⟨rfl, hb⟩
    have hok : i < 0 ∨ (x.length : Int) < i ∨ okB e = false := by
      rcases hi with h | h | h
      · exact .inl h
      · exact .inr (.inl h)
      · exact .inr (.inr (by unfold okB; rw [h]; rfl))
    have e0 : leadsM back e x i = [] := by
      unfold leadsM beginsM endsM
      rw [if_pos hok, if_pos hok]
      cases back <;> rfl
    exact ⟨_, rfl, by rw [e0]; exact Kd.R_nil _ _ _ _ _, hb⟩
  · have h0 : 0 ≤ i := by omega
    have h1 : i ≤ x.length := by omega
    have hk : isN e = true := by
      cases h : isN e with
      | true => rfl
      | false => exact absurd (.inr (.inr h)) hi
    obtain ⟨n, rfl⟩ : ∃ n : Nat, i = n := ⟨i.toNat, by omega⟩
    have hn : n ≤ x.length := by omega
    refine (leads_calls x back At ct e hv hk n hn w A2 A4 c2 c4 hN hT).mono ?_
    rintro r w' ⟨v, ds, rfl, hL, hR, hb⟩
    have hok := ok_of hk hv
    have hno : ¬ ((n : Int) < 0 ∨ (x.length : Int) < (n : Int) ∨ okB e = false) := by
      rintro (h | h | h)
      · omega
      · omega
      · unfold okB at h; rw [hk, hv] at h; cases h
    have e0 : leadsM back e x n = (placesL ds).map fun (j : Nat) => (j : Int) := by
      unfold leadsM beginsM endsM
      rw [if_neg hno, if_neg hno, Int.toNat_natCast]
      cases back
      · rw [if_neg (by decide), ends_places hok hn hL]
      · rw [if_pos rfl, begins_places hok hn hL]
    exact ⟨v, rfl, by rw [e0]; exact hR, hb⟩
def match_Ends.f (a0_0 a0_1 : Int) (l0_2 : List S58) (a0_3 : ByteArray) (l0_4 : List S26) (l1 : List Int) (a2 : Int) : Option (List Int) := if noV ⟨a0_0, a0_1, l0_2, a0_3, l0_4⟩ = true ∧ l1.length < 100000000 then some (endsM ⟨a0_0, a0_1, l0_2, a0_3, l0_4⟩ l1 a2) else none
set_option maxRecDepth 100000 in
set_option maxHeartbeats 4000000 in
theorem match_Ends.calls (a0_0 a0_1 : Int) (A0_2 : Option Addr) (c0_2 : Nat) (l0_2 : List S58) (a0_3 : ByteArray) (A0_4 : Option Addr) (c0_4 : Nat) (l0_4 : List S26) (A1 : Option Addr) (c1 : Nat) (l1 : List Int) (a2 : Int) (r : List Int) (w : World) (hr0_2 : Kd.C k58 w A0_2 l0_2.length l0_2) (hc0_2 : l0_2.length ≤ c0_2) (hr0_4 : Kd.C k26 w A0_4 l0_4.length l0_4) (hc0_4 : l0_4.length ≤ c0_4) (hr1 : Kd.C (Kd.int .i32) w A1 l1.length l1) (hc1 : l1.length ≤ c1) (h : match_Ends.f a0_0 a0_1 l0_2 a0_3 l0_4 l1 a2 = some r) :
    Calls Tryz.prog 28 #[.agg #[.int .i64 a0_0, .int .i64 a0_1, .slice A0_2 l0_2.length c0_2, .string a0_3, .slice A0_4 l0_4.length c0_4], .slice A1 l1.length c1, .int .i64 a2] w fun e w' => ∃ v0_ : Value, e = .returned (v0_) ∧ Kd.R (Kd.int .i64) 3 w' w.heap.size (fun _ => True) v0_ r ∧ Below w.heap.size w w' := by
  unfold match_Ends.f at h
  split at h
  · rename_i hv
    cases h
    obtain ⟨u1, q1⟩ : ∃ u1, w.alloc (.cells #[.int .i64 a0_0, .int .i64 a0_1, .slice A0_2 l0_2.length c0_2, .string a0_3, .slice A0_4 l0_4.length c0_4] 26) = u1 := ⟨_, rfl⟩
    have v1 : Below w.heap.size w u1 := by rw [← q1]; exact (Below.refl _ w).alloc (Nat.le_refl _) _
    have m1 : u1.heap[w.heap.size]? = some (.cells #[.int .i64 a0_0, .int .i64 a0_1, .slice A0_2 l0_2.length c0_2, .string a0_3, .slice A0_4 l0_4.length c0_4] 26 (0, 0)) := by rw [← q1]; exact heap_alloc_new w _
    have d0 := (blk_cell m1 0).trans rfl
    have d1 := (blk_cell m1 1).trans rfl
    have d2 := (blk_cell m1 2).trans rfl
    have d3 := (blk_cell m1 3).trans rfl
    have d4 := (blk_cell m1 4).trans rfl
    have HN : NdAt u1 A0_2 A0_4 c0_2 c0_4 ⟨a0_0, a0_1, l0_2, a0_3, l0_4⟩ := ⟨hc0_2, hc0_4, Kd.C_below hr0_2 v1, Kd.C_below hr0_4 v1⟩
    have HT : TxAt u1 A1 c1 l1 := ⟨Kd.C_below hr1 v1, hc1, hv.2⟩
    have H1 := Lib.hid (leads_told l1 false A1 c1 ⟨a0_0, a0_1, l0_2, a0_3, l0_4⟩ hv.1 a2 u1 A0_2 A0_4 c0_2 c0_4 HN HT)
    have HV := Lib.hid v1
    have hle := v1.size
    clear hr0_2 hr0_4 hr1 HN HT m1 v1 hv
    go_enter Tryz.func28, Tryz.ntmps28
    go_wp2_with fail
    refine H1.out.mono ?_
    rintro e' w2 ⟨v, rfl, hR, hb⟩
    have HX := Lib.hid (And.intro hR hb)
    clear hR hb H1
    go_wp2
    go_ret
    exact ⟨v, rfl, Kd.R_lower HX.out.1 hle, HV.out.trans (HX.out.2.mono hle)⟩
  · cases h
def match_Begins.f (a0_0 a0_1 : Int) (l0_2 : List S58) (a0_3 : ByteArray) (l0_4 : List S26) (l1 : List Int) (a2 : Int) : Option (List Int) := if noV ⟨a0_0, a0_1, l0_2, a0_3, l0_4⟩ = true ∧ l1.length < 100000000 then some (beginsM ⟨a0_0, a0_1, l0_2, a0_3, l0_4⟩ l1 a2) else none
set_option maxRecDepth 100000 in
set_option maxHeartbeats 4000000 in
theorem match_Begins.calls (a0_0 a0_1 : Int) (A0_2 : Option Addr) (c0_2 : Nat) (l0_2 : List S58) (a0_3 : ByteArray) (A0_4 : Option Addr) (c0_4 : Nat) (l0_4 : List S26) (A1 : Option Addr) (c1 : Nat) (l1 : List Int) (a2 : Int) (r : List Int) (w : World) (hr0_2 : Kd.C k58 w A0_2 l0_2.length l0_2) (hc0_2 : l0_2.length ≤ c0_2) (hr0_4 : Kd.C k26 w A0_4 l0_4.length l0_4) (hc0_4 : l0_4.length ≤ c0_4) (hr1 : Kd.C (Kd.int .i32) w A1 l1.length l1) (hc1 : l1.length ≤ c1) (h : match_Begins.f a0_0 a0_1 l0_2 a0_3 l0_4 l1 a2 = some r) :
    Calls Tryz.prog 29 #[.agg #[.int .i64 a0_0, .int .i64 a0_1, .slice A0_2 l0_2.length c0_2, .string a0_3, .slice A0_4 l0_4.length c0_4], .slice A1 l1.length c1, .int .i64 a2] w fun e w' => ∃ v0_ : Value, e = .returned (v0_) ∧ Kd.R (Kd.int .i64) 3 w' w.heap.size (fun _ => True) v0_ r ∧ Below w.heap.size w w' := by
  unfold match_Begins.f at h
  split at h
  · rename_i hv
    cases h
    obtain ⟨u1, q1⟩ : ∃ u1, w.alloc (.cells #[.int .i64 a0_0, .int .i64 a0_1, .slice A0_2 l0_2.length c0_2, .string a0_3, .slice A0_4 l0_4.length c0_4] 26) = u1 := ⟨_, rfl⟩
    have v1 : Below w.heap.size w u1 := by rw [← q1]; exact (Below.refl _ w).alloc (Nat.le_refl _) _
    have m1 : u1.heap[w.heap.size]? = some (.cells #[.int .i64 a0_0, .int .i64 a0_1, .slice A0_2 l0_2.length c0_2, .string a0_3, .slice A0_4 l0_4.length c0_4] 26 (0, 0)) := by rw [← q1]; exact heap_alloc_new w _
    have d0 := (blk_cell m1 0).trans rfl
    have d1 := (blk_cell m1 1).trans rfl
    have d2 := (blk_cell m1 2).trans rfl
    have d3 := (blk_cell m1 3).trans rfl
    have d4 := (blk_cell m1 4).trans rfl
    have HN : NdAt u1 A0_2 A0_4 c0_2 c0_4 ⟨a0_0, a0_1, l0_2, a0_3, l0_4⟩ := ⟨hc0_2, hc0_4, Kd.C_below hr0_2 v1, Kd.C_below hr0_4 v1⟩
    have HT : TxAt u1 A1 c1 l1 := ⟨Kd.C_below hr1 v1, hc1, hv.2⟩
    have H1 := Lib.hid (leads_told l1 true A1 c1 ⟨a0_0, a0_1, l0_2, a0_3, l0_4⟩ hv.1 a2 u1 A0_2 A0_4 c0_2 c0_4 HN HT)
    have HV := Lib.hid v1
    have hle := v1.size
    clear hr0_2 hr0_4 hr1 HN HT m1 v1 hv
    go_enter Tryz.func29, Tryz.ntmps29
    go_wp2_with fail
    refine H1.out.mono ?_
    rintro e' w2 ⟨v, rfl, hR, hb⟩
    have HX := Lib.hid (And.intro hR hb)
    clear hR hb H1
    go_wp2
    go_ret
    exact ⟨v, rfl, Kd.R_lower HX.out.1 hle, HV.out.trans (HX.out.2.mono hle)⟩
  · cases h
end Go.Proofs.YtfinjenkgpndlaaGreatDoor.PA

namespace Go.Proofs.YtfinjenkgpndlaaGreatDoor.PA
open Go.RowKit Go.Proofs.YtfinjenkgpndlaaGreatDoorW.PrintWords Go.Proofs.YtfinjenkgpndlaaGreatDoorW.PrintLast Go.Proofs.YtfinjenkgpndlaaGreatDoorW.PrintMore
attribute [local go_sem] max2_int min2_int max_two min_two max_three min_three max_four min_four   -- for this text's walks alone
set_option linter.unusedVariables false
set_option linter.unusedSimpArgs false

def match_All.f (k : Nat) (a0_0 : Int) (a0_1 : Int) (l0_2 : List (S58)) (a0_3 : ByteArray) (l0_4 : List (S26)) (l1 : List Int) : Option (Bool) := (match_Ends.f a0_0 a0_1 l0_2 a0_3 l0_4 l1 0).bind fun t201 => ((slices_Contains_int_int.f k t201 (l1.length : Int)).bind fun t204 => (some t204))
theorem match_All.mono : ∀ a0 a1 a2 a3 a4 a5 k, LeO (match_All.f k a0 a1 a2 a3 a4 a5) (match_All.f (k + 1) a0 a1 a2 a3 a4 a5) := by
 intro a0 a1 a2 a3 a4 a5 k
 unfold match_All.f
 repeat' first
   | (with_reducible exact slices_Contains_int_int.mono _ _ _)
   | (with_reducible exact LeO.refl _)
   | (with_reducible exact LeO.none _)
   | (with_reducible refine LeO.ite ?_ ?_)
   | (with_reducible refine LeO.bind ?_ (fun _ => ?_))
   | exact slices_Contains_int_int.mono _ _ _
   | exact LeO.none _
   | refine LeO.ite ?_ ?_
   | refine LeO.bind ?_ (fun _ => ?_)
set_option maxHeartbeats 8000000 in
set_option maxRecDepth 100000 in
theorem match_All.calls (k : Nat) (a0_0 : Int) (a0_1 : Int) (A0_2 : Option Addr) (c0_2 : Nat) (l0_2 : List (S58)) (a0_3 : ByteArray) (A0_4 : Option Addr) (c0_4 : Nat) (l0_4 : List (S26)) (A1 : Option Addr) (c1 : Nat) (l1 : List Int) (r : Bool) (w : World) (hr0_2 : Kd.C k58 w A0_2 l0_2.length l0_2) (hc0_2 : l0_2.length ≤ c0_2) (hr0_4 : Kd.C k26 w A0_4 l0_4.length l0_4) (hc0_4 : l0_4.length ≤ c0_4) (hr1 : Kd.C (Kd.int .i32) w A1 l1.length l1) (hc1 : l1.length ≤ c1) (h : match_All.f k a0_0 a0_1 l0_2 a0_3 l0_4 l1 = some r) :
  Calls Tryz.prog 26 #[.agg #[.int .i64 a0_0, .int .i64 a0_1, .slice A0_2 l0_2.length c0_2, .string a0_3, .slice A0_4 l0_4.length c0_4], .slice A1 l1.length c1] w fun e w' => e = .returned (.bool r) ∧ Below w.heap.size w w' := by
 have hu26 := Tryz.underlying26
 have HR0_2 := Aside0.mk hr0_2
 have HC0_2 := Aside0.mk hc0_2
 clear hr0_2 hc0_2
 have HR0_4 := Aside0.mk hr0_4
 have HC0_4 := Aside0.mk hc0_4
 clear hr0_4 hc0_4
 have HR1 := Aside0.mk hr1
 have HC1 := Aside0.mk hc1
 clear hr1 hc1
 have HB := Aside0.mk (Below.refl w.heap.size w)
 have H : ((match_Ends.f a0_0 a0_1 l0_2 a0_3 l0_4 l1 0).bind fun t201 => ((slices_Contains_int_int.f k t201 (l1.length : Int)).bind fun t204 => (some t204))) = some r := h
 clear h
 replace H := Option.bind_eq_some_iff.mp H
 obtain ⟨t201, A30, H⟩ := H
 replace H : ((slices_Contains_int_int.f k t201 (l1.length : Int)).bind fun t204 => (some t204)) = some r := H
 have A3 := Aside0.mk A30
 clear A30
 replace H := Option.bind_eq_some_iff.mp H
 obtain ⟨t204, A40, H⟩ := H
 replace H : (some t204) = some r := H
 have A4 := Aside0.mk A40
 clear A40
 obtain rfl := Option.some.inj H
 go_enter Tryz.func26, Tryz.ntmps26
 go_wp2_with (first | ((with_reducible refine gate_dst (N := 2) rfl ?_); refine box_event ?hg (N := 2) ?hd (cs := #[.int .i64 a0_0, .int .i64 a0_1, .slice A0_2 l0_2.length c0_2, .string a0_3, .slice A0_4 l0_4.length c0_4]) (t := 26) ?hr ?_; (case hd => rfl); (case hg => rfl); (case hr => first | (go_simp; done) | (go_simp; rfl)); intro gb200 hg w5 hbox hb; have n0_ := Aside0.mk (below_step (by repeat (first | (with_reducible first | exact HB.out | apply below_alloc | apply pw_below_drewN | apply below_drew1) | exact HB.out)) hb); have n1_ := Aside0.mk (hbox); have n2_ := Aside0.mk ((by rw [hg]; exact (below_size (by repeat (first | (with_reducible first | exact HB.out | apply below_alloc | apply pw_below_drewN | apply below_drew1) | exact HB.out))) : w.heap.size ≤ gb200)); have n3_ := Aside0.mk ((by rw [hg]; exact (below_size (by repeat (first | (with_reducible first | exact HB.out | apply below_alloc | apply pw_below_drewN | apply below_drew1) | exact HB.out))) : w.heap.size ≤ gb200)); clear HB; have HB := n0_; have BK200 := n1_; have GW200 := n2_; have GE200 := n3_; clear n0_ n1_ n2_ n3_; clear hb hbox hg; have hcz6_0 : w5.cell? ⟨gb200, 0, none⟩ = some (.int .i64 a0_0) := (blk_cell BK200.out 0).trans rfl; have hcz6_1 : w5.cell? ⟨gb200, 1, none⟩ = some (.int .i64 a0_1) := (blk_cell BK200.out 1).trans rfl; have hcz6_2 : w5.cell? ⟨gb200, 2, none⟩ = some (.slice A0_2 l0_2.length c0_2) := (blk_cell BK200.out 2).trans rfl; have hcz6_3 : w5.cell? ⟨gb200, 3, none⟩ = some (.string a0_3) := (blk_cell BK200.out 3).trans rfl; have hcz6_4 : w5.cell? ⟨gb200, 4, none⟩ = some (.slice A0_4 l0_4.length c0_4) := (blk_cell BK200.out 4).trans rfl; have hfz6_0 := blk_frozen BK200.out 0; have hfz6_1 := blk_frozen BK200.out 1; have hfz6_2 := blk_frozen BK200.out 2; have hfz6_3 := blk_frozen BK200.out 3; have hfz6_4 := blk_frozen BK200.out 4) | ((with_reducible refine gate_callee (f := 28) rfl ?_); refine goesL_ (some 7) rfl rfl Tryz.func28 (by kernel_rfl) rfl #[.agg #[.int .i64 a0_0, .int .i64 a0_1, .slice A0_2 l0_2.length c0_2, .string a0_3, .slice A0_4 l0_4.length c0_4], .slice A1 l1.length c1, .int .i64 0] rfl (by (try simp only [List.map_toArray, List.map_cons, List.map_nil]); first | done | rfl | (simp only [List.length_drop, List.length_take]; rfl)) ?_; (with_reducible refine (match_Ends.calls a0_0 a0_1 _ _ l0_2 a0_3 _ _ l0_4 _ _ l1 0 t201 _ ?side1 ?side2 ?side3 ?side4 ?side5 ?side6 A3.out).mono ?_); (case side1 => repeat (first | exact (Kd.C_below HR0_2.out HB.out) | (with_reducible refine Kd.C_alloc ?_ _) | (with_reducible refine Kd.C_drewN ?_ _) | (with_reducible refine Kd.C_drew ?_))); (case side2 => exact HC0_2.out); (case side3 => repeat (first | exact (Kd.C_below HR0_4.out HB.out) | (with_reducible refine Kd.C_alloc ?_ _) | (with_reducible refine Kd.C_drewN ?_ _) | (with_reducible refine Kd.C_drew ?_))); (case side4 => exact HC0_4.out); (case side5 => repeat (first | exact (Kd.C_below HR1.out HB.out) | (with_reducible refine Kd.C_alloc ?_ _) | (with_reducible refine Kd.C_drewN ?_ _) | (with_reducible refine Kd.C_drew ?_))); (case side6 => exact HC1.out); rintro e w7 ⟨v202, rfl, ho0, hb⟩; refine ⟨_, rfl, ?_⟩; have n0_ := Aside0.mk (Kd.R_lower ho0 (below_size (by repeat (first | (with_reducible first | exact HB.out | apply below_alloc | apply pw_below_drewN | apply below_drew1 | refine below_set ?_ GE200.out) | exact HB.out)))); have n1_ := Aside0.mk (blk_below (g := gb200) (o := .cells #[.int .i64 a0_0, .int .i64 a0_1, .slice A0_2 l0_2.length c0_2, .string a0_3, .slice A0_4 l0_4.length c0_4] 26 (0, 0)) (by (with_reducible repeat (first | refine blk_drewN ?_ _ | refine blk_drew ?_ | refine blk_alloc ?_ _)); exact BK200.out) hb); have n2_ := Aside0.mk (below_step (by repeat (first | (with_reducible first | exact HB.out | apply below_alloc | apply pw_below_drewN | apply below_drew1 | refine below_set ?_ GE200.out) | exact HB.out)) hb); clear BK200; clear HB; have HO203 := n0_; have BK200 := n1_; have HB := n2_; clear n0_ n1_ n2_; (try clear hb); (try clear hb2); (try clear hk); (try clear hi); (try clear ho0); obtain ⟨Ao8, co8, eo8⟩ := Kd.R_slice HO203.out; subst eo8) | ((with_reducible refine gate_callee (f := 51) rfl ?_); refine goesL_ (some 10) rfl rfl Tryz.func51 (by kernel_rfl) rfl #[.slice Ao8 t201.length co8, .int .i64 (l1.length : Int)] rfl (by (try simp only [List.map_toArray, List.map_cons, List.map_nil]); first | done | rfl | (simp only [List.length_drop, List.length_take]; rfl)) ?_; (with_reducible refine (slices_Contains_int_int.calls k _ _ t201 (l1.length : Int) t204 _ ?side1 ?side2 A4.out).mono ?_); (case side1 => repeat (first | exact (Kd.R_reads' HO203.out).2.2 | (with_reducible refine Kd.C_alloc ?_ _) | (with_reducible refine Kd.C_drewN ?_ _) | (with_reducible refine Kd.C_drew ?_))); (case side2 => exact (Kd.R_reads' HO203.out).2.1); rintro e w' ⟨rfl, ⟨nd, rfl⟩⟩; refine ⟨_, rfl, ?_⟩))
 go_ret
 exact ⟨by first | rfl | (simp [errW_none, errW_some] <;> rfl) | (simp [*, errW_none, errW_some] <;> rfl), by repeat (first | (with_reducible first | exact HB.out | apply below_alloc | apply pw_below_drewN | apply below_drew1 | refine below_set ?_ GE200.out) | exact HB.out)⟩

def match_Null.f (k : Nat) (a0_0 : Int) (a0_1 : Int) (l0_2 : List (S58)) (a0_3 : ByteArray) (l0_4 : List (S26)) : Option (Bool) := (match_All.f k a0_0 a0_1 l0_2 a0_3 l0_4 ([] : List Int)).bind fun t206 => (some t206)
theorem match_Null.mono : ∀ a0 a1 a2 a3 a4 k, LeO (match_Null.f k a0 a1 a2 a3 a4) (match_Null.f (k + 1) a0 a1 a2 a3 a4) := by
 intro a0 a1 a2 a3 a4 k
 unfold match_Null.f
 repeat' first
   | (with_reducible exact match_All.mono _ _ _ _ _ _ _)
   | (with_reducible exact LeO.refl _)
   | (with_reducible exact LeO.none _)
   | (with_reducible refine LeO.ite ?_ ?_)
   | (with_reducible refine LeO.bind ?_ (fun _ => ?_))
   | exact match_All.mono _ _ _ _ _ _ _
   | exact LeO.none _
   | refine LeO.ite ?_ ?_
   | refine LeO.bind ?_ (fun _ => ?_)
set_option maxHeartbeats 8000000 in
set_option maxRecDepth 100000 in
theorem match_Null.calls (k : Nat) (a0_0 : Int) (a0_1 : Int) (A0_2 : Option Addr) (c0_2 : Nat) (l0_2 : List (S58)) (a0_3 : ByteArray) (A0_4 : Option Addr) (c0_4 : Nat) (l0_4 : List (S26)) (r : Bool) (w : World) (hr0_2 : Kd.C k58 w A0_2 l0_2.length l0_2) (hc0_2 : l0_2.length ≤ c0_2) (hr0_4 : Kd.C k26 w A0_4 l0_4.length l0_4) (hc0_4 : l0_4.length ≤ c0_4) (h : match_Null.f k a0_0 a0_1 l0_2 a0_3 l0_4 = some r) :
  Calls Tryz.prog 33 #[.agg #[.int .i64 a0_0, .int .i64 a0_1, .slice A0_2 l0_2.length c0_2, .string a0_3, .slice A0_4 l0_4.length c0_4]] w fun e w' => e = .returned (.bool r) ∧ Below w.heap.size w w' := by
 have hu26 := Tryz.underlying26
 have HR0_2 := Aside0.mk hr0_2
 have HC0_2 := Aside0.mk hc0_2
 clear hr0_2 hc0_2
 have HR0_4 := Aside0.mk hr0_4
 have HC0_4 := Aside0.mk hc0_4
 clear hr0_4 hc0_4
 have HB := Aside0.mk (Below.refl w.heap.size w)
 have H : ((match_All.f k a0_0 a0_1 l0_2 a0_3 l0_4 ([] : List Int)).bind fun t206 => (some t206)) = some r := h
 clear h
 replace H := Option.bind_eq_some_iff.mp H
 obtain ⟨t206, A20, H⟩ := H
 replace H : (some t206) = some r := H
 have A2 := Aside0.mk A20
 clear A20
 obtain rfl := Option.some.inj H
 go_enter Tryz.func33, Tryz.ntmps33
 go_wp2_with (first | ((with_reducible refine gate_dst (N := 1) rfl ?_); refine box_event ?hg (N := 1) ?hd (cs := #[.int .i64 a0_0, .int .i64 a0_1, .slice A0_2 l0_2.length c0_2, .string a0_3, .slice A0_4 l0_4.length c0_4]) (t := 26) ?hr ?_; (case hd => rfl); (case hg => rfl); (case hr => first | (go_simp; done) | (go_simp; rfl)); intro gb205 hg w3 hbox hb; have n0_ := Aside0.mk (below_step (by repeat (first | (with_reducible first | exact HB.out | apply below_alloc | apply pw_below_drewN | apply below_drew1) | exact HB.out)) hb); have n1_ := Aside0.mk (hbox); have n2_ := Aside0.mk ((by rw [hg]; exact (below_size (by repeat (first | (with_reducible first | exact HB.out | apply below_alloc | apply pw_below_drewN | apply below_drew1) | exact HB.out))) : w.heap.size ≤ gb205)); have n3_ := Aside0.mk ((by rw [hg]; exact (below_size (by repeat (first | (with_reducible first | exact HB.out | apply below_alloc | apply pw_below_drewN | apply below_drew1) | exact HB.out))) : w.heap.size ≤ gb205)); clear HB; have HB := n0_; have BK205 := n1_; have GW205 := n2_; have GE205 := n3_; clear n0_ n1_ n2_ n3_; clear hb hbox hg; have hcz4_0 : w3.cell? ⟨gb205, 0, none⟩ = some (.int .i64 a0_0) := (blk_cell BK205.out 0).trans rfl; have hcz4_1 : w3.cell? ⟨gb205, 1, none⟩ = some (.int .i64 a0_1) := (blk_cell BK205.out 1).trans rfl; have hcz4_2 : w3.cell? ⟨gb205, 2, none⟩ = some (.slice A0_2 l0_2.length c0_2) := (blk_cell BK205.out 2).trans rfl; have hcz4_3 : w3.cell? ⟨gb205, 3, none⟩ = some (.string a0_3) := (blk_cell BK205.out 3).trans rfl; have hcz4_4 : w3.cell? ⟨gb205, 4, none⟩ = some (.slice A0_4 l0_4.length c0_4) := (blk_cell BK205.out 4).trans rfl; have hfz4_0 := blk_frozen BK205.out 0; have hfz4_1 := blk_frozen BK205.out 1; have hfz4_2 := blk_frozen BK205.out 2; have hfz4_3 := blk_frozen BK205.out 3; have hfz4_4 := blk_frozen BK205.out 4) | ((with_reducible refine gate_callee (f := 26) rfl ?_); refine goesL_ (some 4) rfl rfl Tryz.func26 (by kernel_rfl) rfl #[.agg #[.int .i64 a0_0, .int .i64 a0_1, .slice A0_2 l0_2.length c0_2, .string a0_3, .slice A0_4 l0_4.length c0_4], .slice none 0 0] rfl (by (try simp only [List.map_toArray, List.map_cons, List.map_nil]); first | done | rfl | (simp only [List.length_drop, List.length_take]; rfl)) ?_; (refine (match_All.calls k a0_0 a0_1 _ _ l0_2 a0_3 _ _ l0_4 _ _ ([] : List Int) t206 _ ?side1 ?side2 ?side3 ?side4 ?side5 ?side6 A2.out).mono ?_); (case side1 => repeat (first | exact (Kd.C_below HR0_2.out HB.out) | (with_reducible refine Kd.C_alloc ?_ _) | (with_reducible refine Kd.C_drewN ?_ _) | (with_reducible refine Kd.C_drew ?_))); (case side2 => exact HC0_2.out); (case side3 => repeat (first | exact (Kd.C_below HR0_4.out HB.out) | (with_reducible refine Kd.C_alloc ?_ _) | (with_reducible refine Kd.C_drewN ?_ _) | (with_reducible refine Kd.C_drew ?_))); (case side4 => exact HC0_4.out); (case side5 => exact Kd.C_nil _ _); (case side6 => exact Nat.le_refl _); rintro e w5 ⟨rfl, hb⟩; refine ⟨_, rfl, ?_⟩; have n0_ := Aside0.mk (blk_below (g := gb205) (o := .cells #[.int .i64 a0_0, .int .i64 a0_1, .slice A0_2 l0_2.length c0_2, .string a0_3, .slice A0_4 l0_4.length c0_4] 26 (0, 0)) (by (with_reducible repeat (first | refine blk_drewN ?_ _ | refine blk_drew ?_ | refine blk_alloc ?_ _)); exact BK205.out) hb); have n1_ := Aside0.mk (below_step (by repeat (first | (with_reducible first | exact HB.out | apply below_alloc | apply pw_below_drewN | apply below_drew1 | refine below_set ?_ GE205.out) | exact HB.out)) hb); clear BK205; clear HB; have BK205 := n0_; have HB := n1_; clear n0_ n1_; (try clear hb); (try clear hb2); (try clear hk); (try clear hi)))
 go_ret
 exact ⟨by first | rfl | (simp [errW_none, errW_some] <;> rfl) | (simp [*, errW_none, errW_some] <;> rfl), by repeat (first | (with_reducible first | exact HB.out | apply below_alloc | apply pw_below_drewN | apply below_drew1 | refine below_set ?_ GE205.out) | exact HB.out)⟩

end Go.Proofs.YtfinjenkgpndlaaGreatDoor.PA

namespace Go.Proofs.YtfinjenkgpndlaaGreatDoor.PA
open Go.RowKit Go.Shelf Go.Proofs.YtfinjenkgpndlaaGreatDoorW.PrintWords Go.Proofs.YtfinjenkgpndlaaGreatDoorW.PrintLast Go.Proofs.YtfinjenkgpndlaaGreatDoorW.PrintMore
attribute [local go_sem] Oper.semAt_some
set_option linter.unusedVariables false
set_option linter.unusedSimpArgs false

theorem tokens_calls (s : ByteArray) (w : World) : Calls Tryz.prog 59 #[.string s] w fun e w' => e = .returned (.func (.func 85) #[] #[.pointer (some ⟨w.heap.size, 0, none⟩)]) ∧ w' = w.alloc (.cells #[.string s] 9) := by
  go_enter Tryz.func59, Tryz.ntmps59
  go_wp2
  go_ret
  exact ⟨rfl, rfl⟩
theorem Sc.start {w a1 a2 a3 a4 a5 : World} (s : ByteArray) (h1 : w.alloc (.cells #[.slice none 0 0] 72) = a1) (h2 : a1.alloc (.cells #[.int .i64 0] 3) = a2) (h3 : a2.alloc (.cells #[.int .i64 0] 27) = a3) (h4 : a3.alloc (.cells #[.slice none 0 0] 72) = a4) (h5 : a4.alloc (.cells #[.string s] 9) = a5) :
    Sc w a5 [] ∧ a5.heap[w.heap.size + 4]? = some (.cells #[.string s] 9 (0, 0)) ∧ a5.heap.size = w.heap.size + 5 := by
  have al : ∀ {W W' : World} {o : Obj}, W.alloc o = W' → W'.heap[W.heap.size]? = some o ∧ W'.heap.size = W.heap.size + 1 ∧ Below W.heap.size W W' := by
    rintro W W' o rfl
    exact ⟨heap_alloc_new W o, by simp, (Below.refl _ W).alloc (Nat.le_refl _) _⟩
  obtain ⟨n1, s1, b1⟩ := al h1
  obtain ⟨n2, s2, b2⟩ := al h2
  obtain ⟨n3, s3, b3⟩ := al h3
  obtain ⟨n4, s4, b4⟩ := al h4
  obtain ⟨n5, s5, b5⟩ := al h5
  have e2 : a1.heap.size = w.heap.size + 1 := s1
  have e3 : a2.heap.size = w.heap.size + 2 := by omega
  have e4 : a3.heap.size = w.heap.size + 3 := by omega
  have e5 : a4.heap.size = w.heap.size + 4 := by omega
  rw [e2] at n2
  rw [e3] at n3
  rw [e4] at n4
  rw [e5] at n5
  have up2 : ∀ k, k < w.heap.size + 1 → a2.heap[k]? = a1.heap[k]? := fun k hk => b2.block k (by omega)
  have up3 : ∀ k, k < w.heap.size + 2 → a3.heap[k]? = a2.heap[k]? := fun k hk => b3.block k (by omega)
  have up4 : ∀ k, k < w.heap.size + 3 → a4.heap[k]? = a3.heap[k]? := fun k hk => b4.block k (by omega)
  have up5 : ∀ k, k < w.heap.size + 4 → a5.heap[k]? = a4.heap[k]? := fun k hk => b5.block k (by omega)
  refine ⟨⟨?_, ?_, ?_, ⟨_, ?_, Kd.R_nil _ _ _ _ _⟩, ?_, by omega⟩, n5, by omega⟩
  · exact (up5 _ (by omega)).trans ((up4 _ (by omega)).trans ((up3 _ (by omega)).trans ((up2 _ (by omega)).trans n1)))
  · exact (up5 _ (by omega)).trans ((up4 _ (by omega)).trans ((up3 _ (by omega)).trans n2))
  · exact (up5 _ (by omega)).trans ((up4 _ (by omega)).trans n3)
  · exact (up5 _ (by omega)).trans n4
  · exact b1.trans ((b2.mono (by omega)).trans ((b3.mono (by omega)).trans ((b4.mono (by omega)).trans (b5.mono (by omega)))))
theorem Sc.fin {W0 W W1 : World} {l l' : List Tok} {v v1 : Value} {D : Nat} (h : Sc W0 W l) (hR0 : Kd.R k77 77 W (W0.heap.size + 4) (fun _ => True) v l) (hR : Kd.R k77 77 W1 (W0.heap.size + 4) (fun _ => True) v1 l') (hg : W.grownBy W1 v.ownBlock) (hK : W.heap[D]? = some (.deferred (some []))) (hD : W0.heap.size + 4 ≤ D) :
    (W1.heap[W0.heap.size]? = some (.cells #[.slice none 0 0] 72 (0, 0)) ∧ W1.heap[W0.heap.size + 1]? = some (.cells #[.int .i64 0] 3 (0, 0)) ∧ W1.heap[W0.heap.size + 2]? = some (.cells #[.int .i64 0] 27 (0, 0))) ∧
    (((W1.setCell ⟨W0.heap.size, 0, none⟩ v1).setCell ⟨W0.heap.size + 1, 0, none⟩ (.int .i64 0)).setCell ⟨W0.heap.size + 2, 0, none⟩ (.int .i64 0)).heap[D]? = some (.deferred (some [])) ∧
    (((W1.setCell ⟨W0.heap.size, 0, none⟩ v1).setCell ⟨W0.heap.size + 1, 0, none⟩ (.int .i64 0)).setCell ⟨W0.heap.size + 2, 0, none⟩ (.int .i64 0)).heap[W0.heap.size]? = some (.cells #[v1] 72 (0, 0)) ∧
    (((W1.setCell ⟨W0.heap.size, 0, none⟩ v1).setCell ⟨W0.heap.size + 1, 0, none⟩ (.int .i64 0)).setCell ⟨W0.heap.size + 2, 0, none⟩ (.int .i64 0)).heap[W0.heap.size + 1]? = some (.cells #[.int .i64 0] 3 (0, 0)) ∧
    (((W1.setCell ⟨W0.heap.size, 0, none⟩ v1).setCell ⟨W0.heap.size + 1, 0, none⟩ (.int .i64 0)).setCell ⟨W0.heap.size + 2, 0, none⟩ (.int .i64 0)).heap[W0.heap.size + 2]? = some (.cells #[.int .i64 0] 27 (0, 0)) ∧
    Kd.R k77 77 (((W1.setCell ⟨W0.heap.size, 0, none⟩ v1).setCell ⟨W0.heap.size + 1, 0, none⟩ (.int .i64 0)).setCell ⟨W0.heap.size + 2, 0, none⟩ (.int .i64 0)) (W0.heap.size + 4) (fun _ => True) v1 l' ∧
    Below W0.heap.size W0 (((W1.setCell ⟨W0.heap.size, 0, none⟩ v1).setCell ⟨W0.heap.size + 1, 0, none⟩ (.int .i64 0)).setCell ⟨W0.heap.size + 2, 0, none⟩ (.int .i64 0)) := by
  obtain ⟨inner, hown⟩ := Kd.R_own hR0
  have hnk : ∀ k, k < W0.heap.size + 4 → some k ≠ v.ownBlock := fun k hk e => by have := own_base hown k e.symm; omega
  have hs := h.size
  have q2 := (hg.block _ (by omega) (hnk _ (by omega))).trans h.r2
  have q3 := (hg.block _ (by omega) (hnk _ (by omega))).trans h.r3
  have q4 := (hg.block _ (by omega) (hnk _ (by omega))).trans h.r4
  have qD : W1.heap[D]? = some (.deferred (some [])) := (hg.block _ (blk_lt hK) (fun e => by
    obtain ⟨c, hc⟩ := own_typed hown D e.symm
    rw [hc] at hK; cases hK)).trans hK
  have hst : ∀ (Y : World) (b k : Nat) (u : Value), k ≠ b → (Y.setCell ⟨b, 0, none⟩ u).heap[k]? = Y.heap[k]? := fun Y b k u hk => Below.heap_setCell Y ⟨b, 0, none⟩ u k hk
  have hb1 : Below W0.heap.size W0 W1 := h.below.grown hg h.below.size (fun k hk => by have := own_base hown k hk; omega)
  refine ⟨⟨q2, q3, q4⟩, ?_, ?_, ?_, ?_, ?_, ?_⟩
  · rw [hst _ _ _ _ (by omega), hst _ _ _ _ (by omega), hst _ _ _ _ (by omega)]; exact qD
  · rw [hst _ _ _ _ (by omega), hst _ _ _ _ (by omega)]; exact heap_set q2 0 v1
  · rw [hst _ _ _ _ (by omega)]
    exact heap_set ((hst _ _ _ _ (by omega)).trans q3) 0 (.int .i64 0)
  · exact heap_set ((hst _ _ _ _ (by omega)).trans ((hst _ _ _ _ (by omega)).trans q4)) 0 (.int .i64 0)
  · refine Kd.R_mono (Kd.R_move (Kd.R_bound hR) (fun k hk => ?_)) (fun _ hk => hk.1)
    have := hk.2.1
    rw [hst _ _ _ _ (by omega), hst _ _ _ _ (by omega), hst _ _ _ _ (by omega)]
  · exact ((hb1.setCell (p := ⟨W0.heap.size, 0, none⟩) (Nat.le_refl _) _).setCell (p := ⟨W0.heap.size + 1, 0, none⟩) (by show _ ≤ W0.heap.size + 1; omega) _).setCell (p := ⟨W0.heap.size + 2, 0, none⟩) (by show _ ≤ W0.heap.size + 2; omega) _
set_option maxRecDepth 100000 in
set_option maxHeartbeats 4000000 in
theorem scanIn_ (n : Nat) (hn : 3 ≤ n) (s : ByteArray) (hs : s.size < 1099511627776) (xs : List Tok) (hx : scanL s.data.toList 0 = some xs) (hxl : xs.length ≤ s.size) (w : World) :
    CallsIn Fence.wide n Tryz.prog 40 #[.string s] w fun e w' => ∃ v : Value, e = .returned (.tuple #[v, .int .i64 0, .int .i64 0]) ∧ Kd.R k77 77 w' w.heap.size (fun _ => True) v (xs ++ [(⟨0, s.size, ⟨#[]⟩, 0⟩ : Tok)]) ∧ Below w.heap.size w w' := by
  have h1 : 1 ≤ n := by omega
  have hu3 := Tryz.underlying77
  refine callsIn_of_wp_marks Tryz.func40 rfl trivial ?_ rfl
  simp only [Tryz.ntmps40, List.size_toArray, List.length_cons, List.length_nil, Nat.reduceAdd, Nat.reduceSub, Array.replicate_succ, Array.replicate_zero, List.push_toArray, List.append_toArray, List.nil_append, List.cons_append]
  have htc := fun W => callsIn_wide (n := n - 1) |>.2 (tokens_calls s W)
  gi_wp2_with (refine ⟨trivial, ?_⟩; gi_at_call 59; refine (htc _).mono ?_; rintro e w2 ⟨rfl, rfl⟩)
  obtain ⟨a1, e1⟩ : ∃ a1, w.alloc (.cells #[.slice none 0 0] 72) = a1 := ⟨_, rfl⟩
  obtain ⟨a2, e2⟩ : ∃ a2, a1.alloc (.cells #[.int .i64 0] 3) = a2 := ⟨_, rfl⟩
  obtain ⟨a3, e3⟩ : ∃ a3, a2.alloc (.cells #[.int .i64 0] 27) = a3 := ⟨_, rfl⟩
  obtain ⟨a4, e4⟩ : ∃ a4, a3.alloc (.cells #[.slice none 0 0] 72) = a4 := ⟨_, rfl⟩
  obtain ⟨w5, e5⟩ : ∃ w5, a4.alloc (.cells #[.string s] 9) = w5 := ⟨_, rfl⟩
  obtain ⟨hSc, hbx, hs5⟩ := Sc.start s e1 e2 e3 e4 e5
  rw [e1, e2, e3, e4, e5]
  clear e1 e2 e3 e4 e5
  have HSC := Lib.hid hSc
  have hIt : ∀ r, Iter [72, 77] Tryz.prog w.heap.size 85 #[.pointer (some ⟨w.heap.size + 1 + 1 + 1 + 1, 0, none⟩)] (fun t : Tok => #[tokV t, .bool true]) xs ((w5.alloc (.deferred (some []))).alloc (.loop r)) := fun r =>
    tokens1_iter _ (by decide) _ _ s (by omega) xs hx _ ((Below.heap_alloc _ _ _ (by simp; omega)).trans ((Below.heap_alloc _ _ _ (by show w.heap.size + 4 < _; omega)).trans hbx))
  clear hSc hbx
  refine range_turn2 (T := [72, 77]) (B0 := w.heap.size) (gf := 85) (lb := #[.pointer (some ⟨w.heap.size + 1 + 1 + 1 + 1, 0, none⟩)]) rfl (enters_of Tryz.func85 (by kernel_rfl) rfl) (fun _ => rfl) hIt
    (fun i W' => Sc w W' (xs.take i)) (fun _ => False) (fun i A C q ht => q.turn ht (by omega)) (fun A C q ht => q) (by rw [List.take_zero]; exact HSC.out)
    (fun i x a' W' => Sc w W' (xs.take i) ∧ ∃ B4, W'.heap[B4]? = some (.cells #[.int .i64 x.f0, .int .i64 x.f1, .string x.f2, .int .i32 x.f3] 77 (0, 0)) ∧ a' = { tmps := #[.string s, undef, .pointer (some ⟨w.heap.size, 0, none⟩), .pointer (some ⟨w.heap.size + 1, 0, none⟩), .pointer (some ⟨w.heap.size + 1 + 1, 0, none⟩), .pointer (some ⟨w.heap.size + 1 + 1 + 1, 0, none⟩), .pointer (some ⟨B4, 0, none⟩), .bool true, .string s, .func (.func 85) #[] #[.pointer (some ⟨w.heap.size + 1 + 1 + 1 + 1, 0, none⟩)], .agg #[.int .i64 x.f0, .int .i64 x.f1, .string x.f2, .int .i32 x.f3], .bool true, undef, undef, undef, undef, undef, undef, undef, undef, undef, undef, undef, undef, undef, undef], defers := [] })
    (fun i x a' A C ⟨q, B4, hb, e⟩ ht => ⟨q.turn ht (by omega), B4, ht.same B4 (.cells #[.int .i64 x.f0, .int .i64 x.f1, .string x.f2, .int .i32 x.f3] 77 (0, 0)) hb (.inr rfl), e⟩)
    ?assign ?body ?done ?stop
  case assign =>
    rintro l' i x W' K hx1 hj hK
    simp only [tokV]
    gi_wp2
    refine hK _ _ (KpT.of_below ((Below.refl _ W').alloc (Nat.le_refl _) _)) ⟨hj.later ((Below.refl _ W').alloc (Nat.le_refl _) _), W'.heap.size, heap_alloc_new W' _, rfl⟩
  case body =>
    rintro l' i x a' W' hx1 ⟨hj, B4, b4, rfl⟩
    obtain ⟨v, hv, hR⟩ := hj.acc
    have hc : W'.cell? ⟨w.heap.size + 1 + 1 + 1, 0, none⟩ = some v := (blk_cell hv 0).trans rfl
    have hfz : W'.frozen? ⟨w.heap.size + 1 + 1 + 1, 0, none⟩ = false := blk_frozen hv 0
    have c0 := (blk_cell b4 0).trans rfl
    have c1 := (blk_cell b4 1).trans rfl
    have c2 := (blk_cell b4 2).trans rfl
    have c3 := (blk_cell b4 3).trans rfl
    have HV := Lib.hid hv
    have HRR := Lib.hid hR
    have HJ := Lib.hid hj
    have HX := Lib.hid hx1
    have hle := hj.size
    have hlen : (xs.take i).length ≤ xs.length := List.length_take_le' _ _
    clear hv hR hj hx1 b4
    gi_wp2_with (gi_at_builtin; go_loud (refine R_appendIn k77 (w.heap.size + 4) rfl (.tmp 16) (.tmp 18) 72 77 (.agg #[.int .i64 0, .int .i64 0, .string ⟨#[]⟩, .int .i32 0]) 40 rfl Tryz.underlying72 info77 rfl (by decide) (by omega) v (xs.take i) x [.int .i64 x.f0, .int .i64 x.f1, .string x.f2, .int .i32 x.f3] (fun _ => True) (fun _ => False) rfl rfl ?aP (fun _ hk => hk.elim) (fun _ _ => trivial) HRR.out ?aS ?aL ?_); (case aP => exact k77_mkM _ _ _ x); (case aS => exact hle); (case aL => omega); intro v1 w9 ho hg hat; obtain ⟨A1, c9, e1⟩ := Kd.R_slice ho; generalize (xs.take i ++ [x]).length = n1 at e1; subst e1; obtain ⟨q1, q2, q3⟩ := HJ.out.more HV.out HRR.out ho hg; have hcq : w9.cell? ⟨w.heap.size + 1 + 1 + 1, 0, none⟩ = some v := (blk_cell q1 0).trans rfl; have hfq : w9.frozen? ⟨w.heap.size + 1 + 1 + 1, 0, none⟩ = false := blk_frozen q1 0; have Q2 := Lib.hid q2; have Q3 := Lib.hid q3; clear q1 q2 q3 ho hg hat)
    refine ⟨Q3.out, ?_⟩
    have e : xs.take (i + 1) = xs.take i ++ [x] := by
      have hx := HX.out
      obtain ⟨hi, hxe⟩ := List.getElem?_eq_some_iff.1 hx
      rw [List.take_succ_eq_append_getElem hi, hxe]
    show Sc w _ (xs.take (i + 1))
    rw [e]; exact Q2.out
  case done =>
    rintro D W' hD hj hK
    rw [List.take_length] at hj
    obtain ⟨v, hv, hR⟩ := hj.acc
    have hc : W'.cell? ⟨w.heap.size + 1 + 1 + 1, 0, none⟩ = some v := (blk_cell hv 0).trans rfl
    have HRR := Lib.hid hR
    have HJ := Lib.hid hj
    have HK := Lib.hid hK
    have hle := hj.size
    clear hv hR hj hK
    gi_wp2_with (gi_at_builtin; go_loud (refine R_appendIn k77 (w.heap.size + 4) rfl (.tmp 20) (.tmp 24) 72 77 (.agg #[.int .i64 0, .int .i64 0, .string ⟨#[]⟩, .int .i32 0]) 40 rfl Tryz.underlying72 info77 rfl (by decide) (by omega) v xs (⟨0, s.size, ⟨#[]⟩, 0⟩ : Tok) [.int .i64 0, .int .i64 s.size, .string ⟨#[]⟩, .int .i32 0] (fun _ => True) (fun _ => False) rfl rfl ?aP (fun _ hk => hk.elim) (fun _ _ => trivial) HRR.out ?aS ?aL ?_); (case aP => exact k77_mkM _ _ _ (⟨0, s.size, ⟨#[]⟩, 0⟩ : Tok)); (case aS => exact hle); (case aL => omega); intro v1 w9 ho hg hat; obtain ⟨A1, c9, e1⟩ := Kd.R_slice ho; generalize (xs ++ [(⟨0, s.size, ⟨#[]⟩, 0⟩ : Tok)]).length = n1 at e1; subst e1; have HF := Lib.hid (Sc.fin HJ.out HRR.out ho hg HK.out (by omega)); have g2 := blk_frozen HF.out.1.1 0; have g3 := blk_frozen HF.out.1.2.1 0; have g4 : w9.frozen? ⟨w.heap.size + 1 + 1, 0, none⟩ = false := blk_frozen HF.out.1.2.2 0; have k2 := (blk_cell HF.out.1.1 0).trans rfl; have k3 := (blk_cell HF.out.1.2.1 0).trans rfl; have k4 : w9.cell? ⟨w.heap.size + 1 + 1, 0, none⟩ = some (.int .i64 0) := (blk_cell HF.out.1.2.2 0).trans rfl; clear ho hg hat)
    obtain ⟨_, hKD, o2, o3, o4, hRF, hBF⟩ := HF.out
    have ht := TurnFrom.putObj (B := w5.heap.size) (.deferred none) hD hKD rfl
    have z2 := ht.cell ((blk_cell o2 0).trans rfl)
    have z3 := ht.cell ((blk_cell o3 0).trans rfl)
    have z4 := ht.cell ((blk_cell o4 0).trans rfl)
    refine ⟨by simp, .inl ⟨_, _, rfl, run_takeDeferred hKD, ?_⟩⟩
    exact ⟨_, results_c3 rfl _ _ ⟨w.heap.size, 0, none⟩ ⟨w.heap.size + 1, 0, none⟩ ⟨w.heap.size + 2, 0, none⟩ _ _ _ rfl rfl rfl (loadVar_one _ _ _ _ z2 (by first | exact Tryz.isAgg72 _ | (simp [isAgg, go_sem, Tryz.isAgg72]; done) | (simp [isAgg, go_sem, Tryz.underlying72]; done))) (loadVar_one _ _ _ _ z3 (by first | exact Tryz.isAgg3 _ | (simp [isAgg, go_sem, Tryz.isAgg3]; done) | (simp [isAgg, go_sem, Tryz.underlying3]; done))) (loadVar_one _ _ _ _ z4 (by first | exact Tryz.isAgg27 _ | (simp [isAgg, go_sem, Tryz.isAgg27]; done) | (simp [isAgg, go_sem, Tryz.underlying27]; done))), _, rfl, Kd.R_lower (ht.R hRF) (by omega), ht.below hBF (by omega)⟩
  case stop =>
    rintro D W' hD h hK
    exact h.elim
end Go.Proofs.YtfinjenkgpndlaaGreatDoor.PA

namespace Go.Proofs.YtfinjenkgpndlaaGreatDoor.PA
open Go.RowKit Go.Shelf Go.Proofs.YtfinjenkgpndlaaGreatDoorW.PrintWords Go.Proofs.YtfinjenkgpndlaaGreatDoorW.PrintLast Go.Proofs.YtfinjenkgpndlaaGreatDoorW.PrintMore
set_option linter.unusedVariables false
set_option linter.unusedSimpArgs false

theorem scanL_len : ∀ (n : Nat) (l : List UInt8) (p : Nat) (r : List Tok), l.length ≤ n → scanL l p = some r → r.length ≤ l.length := by
  intro n
  induction n with
  | zero =>
    intro l p r hl h
    cases l with
    | nil => cases h; exact Nat.le_refl _
    | cons c cs => simp at hl
  | succ n ih =>
    intro l p r hl h
    cases l with
    | nil => cases h; exact Nat.le_refl _
    | cons c cs =>
      rw [List.length_cons] at hl ⊢
      rw [scanL.eq_def] at h
      dsimp only at h
      by_cases hb : isBl c = true
      · rw [if_pos hb] at h
        have := ih _ _ _ (by omega) h
        omega
      rw [if_neg hb] at h
      by_cases h39 : (c == 39) = true
      · rw [if_pos h39] at h
        cases cs with
        | nil => cases h
        | cons d ds =>
          dsimp only at h
          rw [List.length_cons] at hl ⊢
          split at h
          · obtain ⟨q, hq, rfl⟩ := Option.map_eq_some_iff.1 h
            have := ih _ _ _ (by omega) hq
            rw [List.length_cons]; omega
          · cases h
      · rw [if_neg h39] at h
        split at h
        · obtain ⟨q, hq, rfl⟩ := Option.map_eq_some_iff.1 h
          have := ih _ _ _ (by omega) hq
          rw [List.length_cons]; omega
        · cases h
def lex_Scan.f (s : ByteArray) : Option (List S77 × Int × Int) := if s.size < 1099511627776 then (scanP s.data.toList).map (fun l => (l, 0, 0)) else none
theorem lex_Scan.calls (s : ByteArray) (r1 : List S77) (r2 r3 : Int) (w : World) (h : lex_Scan.f s = some (r1, r2, r3)) :
    Calls Tryz.prog 40 #[.string s] w fun e w' => ∃ v : Value, e = .returned (.tuple #[v, .int .i64 r2, .int .i64 r3]) ∧ Kd.R k77 77 w' w.heap.size (fun _ => True) v r1 ∧ Below w.heap.size w w' := by
  unfold lex_Scan.f at h
  split at h
  · rename_i hs
    obtain ⟨l, hl, e⟩ := Option.map_eq_some_iff.1 h
    unfold scanP at hl
    obtain ⟨xs, hx, rfl⟩ := Option.map_eq_some_iff.1 hl
    simp only [Prod.mk.injEq] at e
    obtain ⟨rfl, rfl, rfl⟩ := e
    have hsz : s.data.toList.length = s.size := by rw [Array.length_toList]; rfl
    have hle := scanL_len _ _ _ _ (Nat.le_refl _) hx
    rw [hsz] at hle
    rw [hsz]
    exact callsIn_wide.1 (scanIn_ 3 (by omega) s hs xs hx hle w)
  · cases h
end Go.Proofs.YtfinjenkgpndlaaGreatDoor.PA

namespace Go.Proofs.YtfinjenkgpndlaaGreatDoor.PA
open Go.RowKit Go.Shelf Go.Proofs.YtfinjenkgpndlaaGreatDoorW.PrintWords Go.Proofs.YtfinjenkgpndlaaGreatDoorW.PrintLast Go.Proofs.YtfinjenkgpndlaaGreatDoorW.PrintMore
set_option linter.unusedVariables false
set_option linter.unusedSimpArgs false

set_option maxRecDepth 100000 in
set_option maxHeartbeats 4000000 in
theorem two_calls (W : World) (base : Nat) (P : Nat → Prop) (k : Int) (v u : Value) (x y : Nd) (hx : NdP W base P v x) (hy : NdP W base P u y) (hb : base ≤ W.heap.size) :
    Calls Tryz.prog 90 #[.int .i64 k, v, u] W fun e w' => ∃ v', e = .returned v' ∧ NdP w' base (fun j => P j ∨ W.heap.size ≤ j) v' (twoN k x y) ∧ Below W.heap.size W w' := by
  have hu2 := Tryz.underlying26
  have hxb := hx.bound
  have hyb := hy.bound
  obtain ⟨v2, v4, rfl, _, _⟩ := hx.at_
  obtain ⟨u2, u4, rfl, _, _⟩ := hy.at_
  obtain ⟨w1, hw1⟩ : ∃ w1, W.alloc (.cells #[.int .i64 x.f0, .int .i64 x.f1, v2, .string x.f3, v4] 26) = w1 := ⟨_, rfl⟩
  obtain ⟨w2, hw2⟩ : ∃ w2, w1.alloc (.cells #[.int .i64 y.f0, .int .i64 y.f1, u2, .string y.f3, u4] 26) = w2 := ⟨_, rfl⟩
  obtain ⟨w3, hw3⟩ : ∃ w3, w2.alloc (.cells #[.int .i64 0, .int .i64 0, .slice none 0 0, .string ⟨#[]⟩, .slice none 0 0] 26) = w3 := ⟨_, rfl⟩
  have s1 : w1.heap.size = W.heap.size + 1 := by rw [← hw1]; simp
  have s2 : w2.heap.size = W.heap.size + 2 := by rw [← hw2]; simp [s1]
  have s3 : w3.heap.size = W.heap.size + 3 := by rw [← hw3]; simp [s2]
  have b1 : Below W.heap.size W w1 := by rw [← hw1]; exact (Below.refl _ W).alloc (Nat.le_refl _) _
  have b2 : Below W.heap.size W w2 := by rw [← hw2]; exact b1.alloc (by omega) _
  have b3 : Below W.heap.size W w3 := by rw [← hw3]; exact b2.alloc (by omega) _
  have o1 : w3.heap[W.heap.size]? = some (.cells #[.int .i64 x.f0, .int .i64 x.f1, v2, .string x.f3, v4] 26 (0, 0)) := by
    rw [← hw3, ← hw2, ← hw1]; exact blk_alloc (blk_alloc (heap_alloc_new W _) _) _
  have o2 : w3.heap[w1.heap.size]? = some (.cells #[.int .i64 y.f0, .int .i64 y.f1, u2, .string y.f3, u4] 26 (0, 0)) := by
    rw [← hw3, ← hw2]; exact blk_alloc (heap_alloc_new w1 _) _
  have o3 : w3.heap[w2.heap.size]? = some (.cells #[.int .i64 0, .int .i64 0, .slice none 0 0, .string ⟨#[]⟩, .slice none 0 0] 26 (0, 0)) := by
    rw [← hw3]; exact heap_alloc_new w2 _
  obtain ⟨w4, hw4⟩ : ∃ w4, w3.alloc (.cells #[.int .i64 x.f0, .int .i64 x.f1, v2, .string x.f3, v4, .int .i64 y.f0, .int .i64 y.f1, u2, .string y.f3, u4] 26) = w4 := ⟨_, rfl⟩
  have b4 : Below W.heap.size W w4 := by rw [← hw4]; exact b3.alloc (by omega) _
  have s4 : w4.heap.size = W.heap.size + 4 := by rw [← hw4]; simp [s3]
  have o4 : w4.heap[w2.heap.size]? = some (.cells #[.int .i64 0, .int .i64 0, .slice none 0 0, .string ⟨#[]⟩, .slice none 0 0] 26 (0, 0)) := by rw [← hw4]; exact blk_alloc o3 _
  have hN : NdP w4 base (fun j => (P j ∧ base ≤ j ∧ j < W.heap.size) ∨ j = w3.heap.size) (.agg #[.int .i64 k, .int .i64 x.f1, .slice none 0 0, .string ⟨#[]⟩, .slice (some ⟨w3.heap.size, 0, none⟩) 2 2]) (twoN k x y) := by
    obtain ⟨cs, ds, e1, e2, l1, l2, h⟩ := (hxb.below b3).two (hyb.below b3) (by omega) k
    have e1' : cs = [.int .i64 x.f0, .int .i64 x.f1, v2, .string x.f3, v4] := by simpa using (congrArg Array.toList (Value.agg.inj e1)).symm
    have e2' : ds = [.int .i64 y.f0, .int .i64 y.f1, u2, .string y.f3, u4] := by simpa using (congrArg Array.toList (Value.agg.inj e2)).symm
    subst e1' e2'
    rw [← hw4]; exact h
  have HN := Lib.hid hN
  have HB := Lib.hid b4
  have HO := Lib.hid o4
  have c0 := (blk_cell o1 0).trans rfl
  have c1 := (blk_cell o1 1).trans rfl
  have c2 := (blk_cell o1 2).trans rfl
  have c3 := (blk_cell o1 3).trans rfl
  have c4 := (blk_cell o1 4).trans rfl
  have d0 := (blk_cell o2 0).trans rfl
  have d1 := (blk_cell o2 1).trans rfl
  have d2 := (blk_cell o2 2).trans rfl
  have d3 := (blk_cell o2 3).trans rfl
  have d4 := (blk_cell o2 4).trans rfl
  have r0 := (blk_cell o4 0).trans rfl
  have r1 := (blk_cell o4 1).trans rfl
  have r2 := (blk_cell o4 2).trans rfl
  have r3 := (blk_cell o4 3).trans rfl
  have r4 := (blk_cell o4 4).trans rfl
  have f0 := blk_frozen o4 0
  have f1 := blk_frozen o4 1
  have f2 := blk_frozen o4 2
  have f3 := blk_frozen o4 3
  have f4 := blk_frozen o4 4
  have S := Lib.hid (And.intro s1 (And.intro s2 (And.intro s3 s4)))
  clear hx hy hxb hyb hN b1 b2 b3 b4 o1 o2 o3 o4 s1 s2 s3 s4
  go_enter Tryz.func90, Tryz.ntmps90
  go_wp2
  refine bodyPost_ret (results_cell_row rfl _ _ w2.heap.size 26 #[.int .i64 k, .int .i64 x.f1, .slice none 0 0, .string ⟨#[]⟩, .slice (some ⟨w3.heap.size, 0, none⟩) 2 2] (0, 0) _ rfl (five_put HO.out _ _ _ _ _) Tryz.underlying26 rfl (by kernel_rfl)) rfl ?_
  obtain ⟨s1, s2, s3, s4⟩ := S.out
  refine ⟨_, rfl, (HN.out.grown (five_grown _ _ _ _ _ _ _) fun j hj => ?_).mono fun j hj => ?_, new_grown HB.out (five_grown _ _ _ _ _ _ _) (by omega) (by omega)⟩
  · rcases hj with ⟨_, _, h⟩ | h <;> omega
  · rcases hj with ⟨h, _, _⟩ | h
    · exact .inl h
    · exact .inr (by omega)
end Go.Proofs.YtfinjenkgpndlaaGreatDoor.PA

namespace Go.Proofs.YtfinjenkgpndlaaGreatDoor.PA
open Go.RowKit Go.Shelf Go.Proofs.YtfinjenkgpndlaaGreatDoorW.PrintWords Go.Proofs.YtfinjenkgpndlaaGreatDoorW.PrintLast Go.Proofs.YtfinjenkgpndlaaGreatDoorW.PrintMore
set_option linter.unusedVariables false
set_option linter.unusedSimpArgs false

def Reads (W0 W : World) (g : Nat) (A : Option Addr) (c : Nat) (l : List Tok) (r : Nd × Rd) (e : Ending) (w' : World) : Prop :=
  ∃ v, e = .returned v ∧ NdV w' W.heap.size v r.1 ∧ RdAt W0 w' g A c l r.2 ∧ W.grownBy w' (some g)
structure Fewer (W0 : World) (g : Nat) (A : Option Addr) (c : Nat) (l : List Tok) (k : Nat) : Prop where
  alt : ∀ W st r, RdAt W0 W g A c l st → runP l k .alt st = some r → Calls Tryz.prog 60 #[.pointer (some ⟨g, 0, none⟩)] W (Reads W0 W g A c l r)
  cat : ∀ W st r, RdAt W0 W g A c l st → runP l k .cat st = some r → Calls Tryz.prog 88 #[.pointer (some ⟨g, 0, none⟩)] W (Reads W0 W g A c l r)
  rep : ∀ W st r, RdAt W0 W g A c l st → runP l k .rep st = some r → Calls Tryz.prog 123 #[.pointer (some ⟨g, 0, none⟩)] W (Reads W0 W g A c l r)
  prim : ∀ W st r, RdAt W0 W g A c l st → runP l k .prim st = some r → Calls Tryz.prog 144 #[.pointer (some ⟨g, 0, none⟩)] W (Reads W0 W g A c l r)
  bracket : ∀ W st r a p, RdAt W0 W g A c l st → runP l k (.bracket a p) st = some r → Calls Tryz.prog 156 #[.pointer (some ⟨g, 0, none⟩), .int .i64 a, .int .i64 p] W (Reads W0 W g A c l r)
structure Mid (W0 W wr : World) (g : Nat) (A : Option Addr) (c : Nat) (l : List Tok) (b2 b3 : Nat) (x : Nd) (st : Rd) : Prop where
  res : wr.heap[b2]? = some (.cells #[.int .i64 0, .int .i64 0, .slice none 0 0, .string ⟨#[]⟩, .slice none 0 0] 26 (0, 0))
  cur : ∃ v2 v4, wr.heap[b3]? = some (.cells #[.int .i64 x.f0, .int .i64 x.f1, v2, .string x.f3, v4] 26 (0, 0)) ∧ NdP wr (b2 + 1) (fun k => k ≠ b3) (.agg #[.int .i64 x.f0, .int .i64 x.f1, v2, .string x.f3, v4]) x
  rd : RdAt W0 wr g A c l st
  grown : W.grownBy wr (some g)
  b2_ : b2 = W.heap.size
  lt : b2 < b3
  ne : g < b2
section
variable {W0 W wr w1 : World} {g c b2 b3 : Nat} {A : Option Addr} {l : List Tok} {x y : Nd} {st st' : Rd}
theorem Mid.lt3 (h : Mid W0 W wr g A c l b2 b3 x st) : b3 < wr.heap.size := by obtain ⟨v2, v4, h1, _⟩ := h.cur; exact blk_lt h1
theorem Mid.later (h : Mid W0 W wr g A c l b2 b3 x st) (hr : RdAt W0 w1 g A c l st') (hg : wr.grownBy w1 (some g)) : Mid W0 W w1 g A c l b2 b3 x st' := by
  obtain ⟨v2, v4, h1, h2⟩ := h.cur
  have n2 := h.ne
  have n3 := h.lt
  refine ⟨(hg.block _ (blk_lt h.res) (by intro e; cases e; omega)).trans h.res, ⟨v2, v4, (hg.block _ (blk_lt h1) (by intro e; cases e; omega)).trans h1, ?_⟩, hr, h.grown.trans hg, h.b2_, h.lt, h.ne⟩
  exact (h2.bound.grown hg fun k hk => by have := hk.2.1; omega).mono fun k hk => hk.1
theorem Mid.below (h : Mid W0 W wr g A c l b2 b3 x st) (hb : Below wr.heap.size wr w1) : Mid W0 W w1 g A c l b2 b3 x st := h.later (h.rd.later hb) (grown_of_below hb _)
theorem Mid.next (h : Mid W0 W wr g A c l b2 b3 x st) {v2 v4 : Value} {P : Nat → Prop} (hP : ∀ k, P k → b2 < k → k ≠ b3) (hy : NdP wr (b2 + 1) P (.agg #[.int .i64 y.f0, .int .i64 y.f1, v2, .string y.f3, v4]) y) :
    Mid W0 W (((((wr.setCell ⟨b3, 0, none⟩ (.int .i64 y.f0)).setCell ⟨b3, 1, none⟩ (.int .i64 y.f1)).setCell ⟨b3, 2, none⟩ v2).setCell ⟨b3, 3, none⟩ (.string y.f3)).setCell ⟨b3, 4, none⟩ v4) g A c l b2 b3 y st := by
  obtain ⟨u2, u4, h1, h2⟩ := h.cur
  have hg := five_grown wr b3 (.int .i64 y.f0) (.int .i64 y.f1) v2 (.string y.f3) v4
  have n2 := h.ne
  have n3 := h.lt
  refine ⟨(hg.block _ (blk_lt h.res) (by intro e; cases e; omega)).trans h.res, ⟨v2, v4, five_put h1 _ _ _ _ _, ?_⟩, ?_, ?_, h.b2_, h.lt, h.ne⟩
  · have hq : NdP wr (b2 + 1) (fun k => k ≠ b3) (.agg #[.int .i64 y.f0, .int .i64 y.f1, v2, .string y.f3, v4]) y := hy.bound.mono fun k hk => hP k hk.1 (by omega)
    exact hq.grown hg fun k hk => hk
  · exact ⟨(hg.block _ h.rd.lt (by intro e; cases e; omega)).trans h.rd.obj, h.rd.below.grown hg h.rd.below.size (fun k hk => by cases hk; have := h.rd.ge; omega), h.rd.ge, h.rd.row, h.rd.cap, h.rd.op0⟩
  · exact World.grownBy.andThen h.grown hg fun j hj => by cases hj; exact .inl (by have := h.b2_; omega)
theorem Mid.done (h : Mid W0 W wr g A c l b2 b3 x st) {v2 v4 : Value} (h1 : wr.heap[b3]? = some (.cells #[.int .i64 x.f0, .int .i64 x.f1, v2, .string x.f3, v4] 26 (0, 0))) :
    (((((wr.setCell ⟨b2, 0, none⟩ (.int .i64 x.f0)).setCell ⟨b2, 1, none⟩ (.int .i64 x.f1)).setCell ⟨b2, 2, none⟩ v2).setCell ⟨b2, 3, none⟩ (.string x.f3)).setCell ⟨b2, 4, none⟩ v4).heap[b2]? = some (.cells #[.int .i64 x.f0, .int .i64 x.f1, v2, .string x.f3, v4] 26 (0, 0)) ∧
    NdV (((((wr.setCell ⟨b2, 0, none⟩ (.int .i64 x.f0)).setCell ⟨b2, 1, none⟩ (.int .i64 x.f1)).setCell ⟨b2, 2, none⟩ v2).setCell ⟨b2, 3, none⟩ (.string x.f3)).setCell ⟨b2, 4, none⟩ v4) W.heap.size (.agg #[.int .i64 x.f0, .int .i64 x.f1, v2, .string x.f3, v4]) x ∧
    RdAt W0 (((((wr.setCell ⟨b2, 0, none⟩ (.int .i64 x.f0)).setCell ⟨b2, 1, none⟩ (.int .i64 x.f1)).setCell ⟨b2, 2, none⟩ v2).setCell ⟨b2, 3, none⟩ (.string x.f3)).setCell ⟨b2, 4, none⟩ v4) g A c l st ∧
    W.grownBy (((((wr.setCell ⟨b2, 0, none⟩ (.int .i64 x.f0)).setCell ⟨b2, 1, none⟩ (.int .i64 x.f1)).setCell ⟨b2, 2, none⟩ v2).setCell ⟨b2, 3, none⟩ (.string x.f3)).setCell ⟨b2, 4, none⟩ v4) (some g) := by
  obtain ⟨u2, u4, k1, k2⟩ := h.cur
  have e : u2 = v2 ∧ u4 = v4 := by
    rw [k1] at h1
    simp only [Option.some.injEq, Obj.cells.injEq, Array.mk.injEq, List.cons.injEq, and_true, true_and] at h1
    exact h1
  obtain ⟨rfl, rfl⟩ := e
  have hg := five_grown wr b2 (.int .i64 x.f0) (.int .i64 x.f1) u2 (.string x.f3) u4
  have n2 := h.ne
  have n3 := h.lt
  have n4 := h.b2_
  refine ⟨five_put h.res _ _ _ _ _, ((k2.bound.grown hg fun k hk => by have := hk.2.1; omega).lower (by omega)).mono fun _ _ => trivial, ?_, ?_⟩
  · exact ⟨(hg.block _ h.rd.lt (by intro e; cases e; omega)).trans h.rd.obj, h.rd.below.grown hg h.rd.below.size (fun k hk => by cases hk; have := h.rd.ge; omega), h.rd.ge, h.rd.row, h.rd.cap, h.rd.op0⟩
  · exact World.grownBy.andThen h.grown hg fun j hj => by cases hj; exact .inl (by omega)
end
end Go.Proofs.YtfinjenkgpndlaaGreatDoor.PA

namespace Go.Proofs.YtfinjenkgpndlaaGreatDoor.PA
open Go.RowKit Go.Shelf Go.Proofs.YtfinjenkgpndlaaGreatDoorW.PrintWords Go.Proofs.YtfinjenkgpndlaaGreatDoorW.PrintLast Go.Proofs.YtfinjenkgpndlaaGreatDoorW.PrintMore
set_option linter.unusedVariables false
set_option linter.unusedSimpArgs false

theorem drew_b (W : World) : Below W.heap.size W W.drew := ⟨rfl, rfl, rfl, Nat.le_refl _, fun _ _ => rfl⟩
section
variable {W0 W w4 W1 w5 : World} {g c b2 b3 : Nat} {A : Option Addr} {l : List Tok} {x y : Nd} {st st' : Rd} {v2 v4 u : Value}
theorem Mid.later5 (h : Mid W0 W w4 g A c l b2 b3 x st) (hb : Below w4.heap.size w4 W1) (hr : RdAt W0 w5 g A c l st') (hg : W1.grownBy w5 (some g)) : Mid W0 W w5 g A c l b2 b3 x st' := (h.below hb).later hr hg
theorem Mid.same5 (h : Mid W0 W w4 g A c l b2 b3 x st) (hb : Below w4.heap.size w4 W1) (hg : W1.grownBy w5 (some g)) {o : Obj} (k : w4.heap[b3]? = some o) : w5.heap[b3]? = some o := by
  have n2 := h.ne
  have n3 := h.lt
  have hlt := blk_lt k
  exact (hg.block _ (Nat.lt_of_lt_of_le hlt hb.size) (by intro e; cases e; omega)).trans ((hb.block _ hlt).trans k)
theorem NdP.new5 (h : NdV w5 W1.heap.size u y) (hM : Mid W0 W w4 g A c l b2 b3 x st) (hb : Below w4.heap.size w4 W1) : NdP w5 (b2 + 1) (fun k => k ≠ b3) u y := by
  have n3 := hM.lt3
  have n4 := hM.lt
  have := hb.size
  exact (h.bound.lower (by omega)).mono fun k hk => by have := hk.2.1; omega
theorem Mid.cur5 (h : Mid W0 W w4 g A c l b2 b3 x st) (k : w4.heap[b3]? = some (.cells #[.int .i64 x.f0, .int .i64 x.f1, v2, .string x.f3, v4] 26 (0, 0))) (hb : Below w4.heap.size w4 W1) : NdP W1 (b2 + 1) (fun k => k ≠ b3) (.agg #[.int .i64 x.f0, .int .i64 x.f1, v2, .string x.f3, v4]) x := by
  obtain ⟨u2, u4, k1, k2⟩ := h.cur
  rw [k1] at k
  simp only [Option.some.injEq, Obj.cells.injEq, Array.mk.injEq, List.cons.injEq, and_true, true_and] at k
  obtain ⟨rfl, rfl⟩ := k
  exact k2.below hb
theorem Mid.size5 (h : Mid W0 W w4 g A c l b2 b3 x st) (hb : Below w4.heap.size w4 W1) : b2 + 1 ≤ W1.heap.size := by
  have := h.lt3
  have := h.lt
  have := hb.size
  omega
theorem below_first {a b : World} (h : Below a.heap.size a b) : Below a.heap.size a b := h
end
section
variable {W0 W : World} {g c : Nat} {A : Option Addr} {l : List Tok} {st : Rd}
theorem Mid.start {w1 w2 w3 : World} {x : Nd} {v2 v4 : Value} (h : RdAt W0 W g A c l st) (hw1 : W.alloc (.cells #[.int .i64 0, .int .i64 0, .slice none 0 0, .string ⟨#[]⟩, .slice none 0 0] 26) = w1) (hN : NdV w2 w1.heap.size (.agg #[.int .i64 x.f0, .int .i64 x.f1, v2, .string x.f3, v4]) x) {st2 : Rd} (hR : RdAt W0 w2 g A c l st2) (hg : w1.grownBy w2 (some g))
    (hw3 : w2.alloc (.cells #[.int .i64 x.f0, .int .i64 x.f1, v2, .string x.f3, v4] 26) = w3) : Mid W0 W w3 g A c l W.heap.size w2.heap.size x st2 := by
  have hlt := h.lt
  have s1 : w1.heap.size = W.heap.size + 1 := by rw [← hw1]; simp
  have hb1 : Below W.heap.size W w1 := by rw [← hw1]; exact (Below.refl _ W).alloc (Nat.le_refl _) _
  have o1 : w1.heap[W.heap.size]? = some (.cells #[.int .i64 0, .int .i64 0, .slice none 0 0, .string ⟨#[]⟩, .slice none 0 0] 26 (0, 0)) := by rw [← hw1]; exact heap_alloc_new W _
  have hb3 : Below w2.heap.size w2 w3 := by rw [← hw3]; exact (Below.refl _ w2).alloc (Nat.le_refl _) _
  have o2 : w2.heap[W.heap.size]? = some (.cells #[.int .i64 0, .int .i64 0, .slice none 0 0, .string ⟨#[]⟩, .slice none 0 0] 26 (0, 0)) := (hg.block _ (by omega) (by intro e; cases e; omega)).trans o1
  have hsz := hg.size
  refine ⟨(hb3.block _ (by omega)).trans o2, ⟨v2, v4, by rw [← hw3]; exact heap_alloc_new w2 _, ?_⟩, hR.later hb3, ?_, rfl, by omega, by omega⟩
  · rw [← s1]
    exact (hN.bound.below hb3).mono fun k hk => by have := hk.2.2; omega
  · exact ((grown_of_below hb1 _).trans hg).trans (grown_of_below hb3 _)
set_option maxRecDepth 100000 in
set_option maxHeartbeats 8000000 in
theorem alt_step {k : Nat} (ih : ∀ j, j < k → Fewer W0 g A c l j) {r : Nd × Rd} (h : RdAt W0 W g A c l st) (hr : runP l k .alt st = some r) :
    Calls Tryz.prog 60 #[.pointer (some ⟨g, 0, none⟩)] W (Reads W0 W g A c l r) := by
  have hu2 := Tryz.underlying26
  cases k with
  | zero => cases hr
  | succ k =>
    obtain ⟨⟨x1, st1⟩, hc, hL⟩ := Option.bind_eq_some_iff.1 (show (runP l k .cat st).bind (fun r => runP l k (.altL r.1) r.2) = some r from hr)
    obtain ⟨w1, hw1⟩ : ∃ w1, W.alloc (.cells #[.int .i64 0, .int .i64 0, .slice none 0 0, .string ⟨#[]⟩, .slice none 0 0] 26) = w1 := ⟨_, rfl⟩
    have hb1 : Below W.heap.size W w1 := by rw [← hw1]; exact (Below.refl _ W).alloc (Nat.le_refl _) _
    have HC := Lib.hid ((ih k (by omega)).cat w1 st _ (h.later hb1) hc)
    have HIH := Lib.hid (fun j (hj : j < k) => ih j (by omega))
    have HL := Lib.hid hL
    have HH := Lib.hid h
    have HW1 := Lib.hid hw1
    clear ih h hr hc hL hb1
    go_enter Tryz.func60, Tryz.ntmps60
    go_wp2_with fail
    refine HC.out.mono ?_
    rintro e w2 ⟨v, rfl, hN, hR, hg⟩
    obtain ⟨v2, v4, rfl, _, _⟩ := hN.at_
    obtain ⟨A2, c2, A4, c4, rfl, rfl⟩ := hN.slices
    obtain ⟨w3, hw3⟩ : ∃ w3, w2.alloc (.cells #[.int .i64 x1.f0, .int .i64 x1.f1, .slice A2 x1.f2.length c2, .string x1.f3, .slice A4 x1.f4.length c4] 26) = w3 := ⟨_, rfl⟩
    have HM := Lib.hid (Mid.start HH.out HW1.out hN hR hg hw3)
    clear hN hR hg hw1 HC HW1 HH
    go_wp2
    go_loopg [] k (fun gk wr => ∃ (j : Nat) (x : Nd) (st2 : Rd), j ≤ gk ∧ j ≤ k ∧ Hid (runP l j (.altL x) st2 = some r) ∧ Hid (Mid W0 W wr g A c l W.heap.size w2.heap.size x st2))
    case atStart => exact ⟨k, x1, st1, Nat.le_refl _, Nat.le_refl _, HL, HM⟩
    case round =>
      clear HL HM hw3
      obtain ⟨j, x, st2, hj, hjk, HL, HM⟩ := hrel
      have HMAY := Lib.hid (may_calls HM.out.rd 124)
      unfold mayP at HMAY
      cases j with
      | zero => cases HL.out
      | succ j =>
        by_cases hi : isP l st2 124 = true
        · have h2 : (if isP l st2 124 then (runP l j .cat (adv st2)).bind (fun r => runP l j (.altL (twoN 5 x r.1)) r.2) else some (x, st2)) = some r := HL.out
          rw [hi, if_pos rfl] at h2
          obtain ⟨⟨y, st3⟩, hc2, hL2⟩ := Option.bind_eq_some_iff.1 h2
          have HL2 := Lib.hid hL2
          rw [hi] at HMAY
          clear hi h2 HL hL2
          go_wp2_with fail
          refine HMAY.out.mono ?_
          rintro e w4 ⟨rfl, h4, g4⟩
          have hM4 := HM.out.later (show RdAt W0 w4 g A c l (adv st2) from h4) g4
          obtain ⟨v2, v4, k3, kN⟩ := hM4.cur
          obtain ⟨B2, e2, B4, e4, rfl, rfl⟩ := kN.slices
          have c0 := (blk_cell k3 0).trans rfl
          have c1 := (blk_cell k3 1).trans rfl
          have c2 := (blk_cell k3 2).trans rfl
          have c3 := (blk_cell k3 3).trans rfl
          have c4 := (blk_cell k3 4).trans rfl
          have HCAT := Lib.hid (fun W1 (hb : Below w4.heap.size w4 W1) => (HIH.out j (by omega)).cat W1 _ _ (hM4.rd.later hb) hc2)
          have HM4 := Lib.hid hM4
          have K3 := Lib.hid k3
          clear hM4 k3 kN h4 g4 hc2 HMAY HM
          go_wp2
          go_region_with (first | (go_at_call 88; (first | refine (HCAT.out _ (Below.refl _ _)).mono ?_ | refine (HCAT.out _ (drew_b _)).mono ?_ | refine (HCAT.out _ (pw_below_drewN (Below.refl _ _) _)).mono ?_); rintro e w5 ⟨u, rfl, hN5, hR5, hg5⟩; have hM5 := HM4.out.later5 (by first | exact Below.refl _ _ | exact drew_b _ | exact pw_below_drewN (Below.refl _ _) _) hR5 hg5; have k5 := HM4.out.same5 (by first | exact Below.refl _ _ | exact drew_b _ | exact pw_below_drewN (Below.refl _ _) _) hg5 K3.out; obtain ⟨u2, u4, rfl, _, _⟩ := hN5.at_; obtain ⟨U2, p2, U4, p4, rfl, rfl⟩ := hN5.slices; have HN5 := Lib.hid (hN5.new5 HM4.out (by first | exact Below.refl _ _ | exact drew_b _ | exact pw_below_drewN (Below.refl _ _) _)); have HM5 := Lib.hid hM5; have K5 := Lib.hid k5; have d0 := (blk_cell k5 0).trans rfl; have d1 := (blk_cell k5 1).trans rfl; have d2 := (blk_cell k5 2).trans rfl; have d3 := (blk_cell k5 3).trans rfl; have d4 := (blk_cell k5 4).trans rfl;  clear hN5 hR5 hg5 hM5 k5) | (go_at_call 90; (first | refine (two_calls _ _ _ _ _ _ x y (HM5.out.cur5 K5.out (Below.refl _ _)) (HN5.out.below (Below.refl _ _)) (HM5.out.size5 (Below.refl _ _))).mono ?_ | refine (two_calls _ _ _ _ _ _ x y (HM5.out.cur5 K5.out (drew_b _)) (HN5.out.below (drew_b _)) (HM5.out.size5 (drew_b _))).mono ?_); rintro e w6 ⟨q, rfl, hN6, hb6⟩; have hB6 := below_first hb6; have hM6 := HM5.out.below hB6; have k6 := (hB6.block _ (blk_lt K5.out)).trans K5.out; obtain ⟨q2, q4, rfl, _, _⟩ := hN6.at_; obtain ⟨V2, z2, V4, z4, rfl, rfl⟩ := hN6.slices; have HN6 := Lib.hid hN6; have HM6 := Lib.hid hM6; have g0 := (blk_cell k6 0).trans rfl; have g1 := (blk_cell k6 1).trans rfl; have g2 := (blk_cell k6 2).trans rfl; have g3 := (blk_cell k6 3).trans rfl; have g4 := (blk_cell k6 4).trans rfl;  have f0 := blk_frozen k6 0; have f1 := blk_frozen k6 1; have f2 := blk_frozen k6 2; have f3 := blk_frozen k6 3; have f4 := blk_frozen k6 4;  clear hN6 hb6 hB6 hM6 k6))
          all_goals
            have hl5 := HM5.out.lt3
            have HM7 := Lib.hid (HM6.out.next (fun k hk hb => by rcases hk with h | h; exact h; omega) HN6.out)
            go_wp2
            go_roundg j
            case measure => omega
            case rel => exact ⟨j, twoN 5 x y, st3, Nat.le_refl _, by omega, HL2, HM7⟩
        · have hi' : isP l st2 124 = false := by simpa using hi
          have hr2 : some (x, st2) = some r := by
            have h2 : (if isP l st2 124 then (runP l j .cat (adv st2)).bind (fun r => runP l j (.altL (twoN 5 x r.1)) r.2) else some (x, st2)) = some r := HL.out
            rwa [hi', if_neg (by decide)] at h2
          obtain rfl := Option.some.inj hr2
          rw [hi'] at HMAY
          clear hi hi' hr2 HL
          go_wp2_with fail
          refine HMAY.out.mono ?_
          rintro e w4 ⟨rfl, h4, g4⟩
          have hM := HM.out.later (show RdAt W0 w4 g A c l st2 from h4) g4
          obtain ⟨v2, v4, k3, kN⟩ := hM.cur
          obtain ⟨B2, e2, B4, e4, rfl, rfl⟩ := kN.slices
          obtain ⟨d1, d2, d3, d4⟩ := hM.done k3
          have k2 := hM.res
          have c0 := (blk_cell k3 0).trans rfl
          have c1 := (blk_cell k3 1).trans rfl
          have c2 := (blk_cell k3 2).trans rfl
          have c3 := (blk_cell k3 3).trans rfl
          have c4 := (blk_cell k3 4).trans rfl
          have r0 := (blk_cell k2 0).trans rfl
          have r1 := (blk_cell k2 1).trans rfl
          have r2 := (blk_cell k2 2).trans rfl
          have r3 := (blk_cell k2 3).trans rfl
          have r4 := (blk_cell k2 4).trans rfl
          have f0 := blk_frozen k2 0
          have f1 := blk_frozen k2 1
          have f2 := blk_frozen k2 2
          have f3 := blk_frozen k2 3
          have f4 := blk_frozen k2 4
          have D := Lib.hid (And.intro d1 (And.intro d2 (And.intro d3 d4)))
          clear h4 g4 hM k2 k3 d1 d2 d3 d4 HMAY HM
          go_wp2
          refine bodyPost_ret (results_cell_row rfl _ _ W.heap.size 26 #[.int .i64 x.f0, .int .i64 x.f1, .slice B2 x.f2.length e2, .string x.f3, .slice B4 x.f4.length e4] (0, 0) _ rfl D.out.1 Tryz.underlying26 rfl (by kernel_rfl)) rfl ?_
          exact ⟨_, rfl, D.out.2.1, D.out.2.2.1, D.out.2.2.2⟩
set_option maxRecDepth 100000 in
set_option maxHeartbeats 8000000 in
theorem cat_step {k : Nat} (ih : ∀ j, j < k → Fewer W0 g A c l j) {r : Nd × Rd} (h : RdAt W0 W g A c l st) (hr : runP l k .cat st = some r) :
    Calls Tryz.prog 88 #[.pointer (some ⟨g, 0, none⟩)] W (Reads W0 W g A c l r) := by
  have hu2 := Tryz.underlying26
  cases k with
  | zero => cases hr
  | succ k =>
    obtain ⟨⟨x1, st1⟩, hc, hL⟩ := Option.bind_eq_some_iff.1 (show (runP l k .rep st).bind (fun r => runP l k (.catL r.1) r.2) = some r from hr)
    obtain ⟨w1, hw1⟩ : ∃ w1, W.alloc (.cells #[.int .i64 0, .int .i64 0, .slice none 0 0, .string ⟨#[]⟩, .slice none 0 0] 26) = w1 := ⟨_, rfl⟩
    have hb1 : Below W.heap.size W w1 := by rw [← hw1]; exact (Below.refl _ W).alloc (Nat.le_refl _) _
    have HC := Lib.hid ((ih k (by omega)).rep w1 st _ (h.later hb1) hc)
    have HIH := Lib.hid (fun j (hj : j < k) => ih j (by omega))
    have HL := Lib.hid hL
    have HH := Lib.hid h
    have HW1 := Lib.hid hw1
    clear ih h hr hc hL hb1
    go_enter Tryz.func88, Tryz.ntmps88
    go_wp2_with fail
    refine HC.out.mono ?_
    rintro e w2 ⟨v, rfl, hN, hR, hg⟩
    obtain ⟨v2, v4, rfl, _, _⟩ := hN.at_
    obtain ⟨A2, c2, A4, c4, rfl, rfl⟩ := hN.slices
    obtain ⟨w3, hw3⟩ : ∃ w3, w2.alloc (.cells #[.int .i64 x1.f0, .int .i64 x1.f1, .slice A2 x1.f2.length c2, .string x1.f3, .slice A4 x1.f4.length c4] 26) = w3 := ⟨_, rfl⟩
    have HM := Lib.hid (Mid.start HH.out HW1.out hN hR hg hw3)
    clear hN hR hg hw1 HC HW1 HH
    go_wp2
    go_loopg [] k (fun gk wr => ∃ (j : Nat) (x : Nd) (st2 : Rd), j ≤ gk ∧ j ≤ k ∧ Hid (runP l j (.catL x) st2 = some r) ∧ Hid (Mid W0 W wr g A c l W.heap.size w2.heap.size x st2))
    case atStart => exact ⟨k, x1, st1, Nat.le_refl _, Nat.le_refl _, HL, HM⟩
    case round =>
      clear HL HM hw3
      obtain ⟨j, x, st2, hj, hjk, HL, HM⟩ := hrel
      cases j with
      | zero => cases HL.out
      | succ j =>
        have h2 : (if (st2.e == 0 && beginsP l st2) then (runP l j .rep st2).bind (fun r => runP l j (.catL (twoN 4 x r.1)) r.2) else some (x, st2)) = some r := HL.out
        have HBEG := Lib.hid (begins_calls HM.out.rd)
        have k3e := HM.out.rd.c3
        by_cases he : st2.e = 0
        · have e1 : (st2.e == 0) = true := by simp [he]
          rw [e1, Bool.true_and] at h2
          by_cases hi : beginsP l st2 = true
          · rw [hi, if_pos rfl] at h2
            obtain ⟨⟨y, st3⟩, hc2, hL2⟩ := Option.bind_eq_some_iff.1 h2
            have HL2 := Lib.hid hL2
            rw [hi] at HBEG
            clear hi h2 HL hL2 he
            go_wp2_with fail
            refine HBEG.out.mono ?_
            rintro e w4 ⟨rfl, hb4⟩
            have hM4 := HM.out.below hb4
            clear hb4 HBEG e1 k3e
            obtain ⟨v2, v4, k3, kN⟩ := hM4.cur
            obtain ⟨B2, e2, B4, e4, rfl, rfl⟩ := kN.slices
            have c0 := (blk_cell k3 0).trans rfl
            have c1 := (blk_cell k3 1).trans rfl
            have c2 := (blk_cell k3 2).trans rfl
            have c3 := (blk_cell k3 3).trans rfl
            have c4 := (blk_cell k3 4).trans rfl
            have HCAT := Lib.hid (fun W1 (hb : Below w4.heap.size w4 W1) => (HIH.out j (by omega)).rep W1 _ _ (hM4.rd.later hb) hc2)
            have HM4 := Lib.hid hM4
            have K3 := Lib.hid k3
            clear hM4 k3 kN hc2 HM
            go_wp2
            go_region_with (first | (go_at_call 123; (first | refine (HCAT.out _ (Below.refl _ _)).mono ?_ | refine (HCAT.out _ (drew_b _)).mono ?_ | refine (HCAT.out _ (pw_below_drewN (Below.refl _ _) _)).mono ?_); rintro e w5 ⟨u, rfl, hN5, hR5, hg5⟩; have hM5 := HM4.out.later5 (by first | exact Below.refl _ _ | exact drew_b _ | exact pw_below_drewN (Below.refl _ _) _) hR5 hg5; have k5 := HM4.out.same5 (by first | exact Below.refl _ _ | exact drew_b _ | exact pw_below_drewN (Below.refl _ _) _) hg5 K3.out; obtain ⟨u2, u4, rfl, _, _⟩ := hN5.at_; obtain ⟨U2, p2, U4, p4, rfl, rfl⟩ := hN5.slices; have HN5 := Lib.hid (hN5.new5 HM4.out (by first | exact Below.refl _ _ | exact drew_b _ | exact pw_below_drewN (Below.refl _ _) _)); have HM5 := Lib.hid hM5; have K5 := Lib.hid k5; have d0 := (blk_cell k5 0).trans rfl; have d1 := (blk_cell k5 1).trans rfl; have d2 := (blk_cell k5 2).trans rfl; have d3 := (blk_cell k5 3).trans rfl; have d4 := (blk_cell k5 4).trans rfl;  clear hN5 hR5 hg5 hM5 k5) | (go_at_call 90; (first | refine (two_calls _ _ _ _ _ _ x y (HM5.out.cur5 K5.out (Below.refl _ _)) (HN5.out.below (Below.refl _ _)) (HM5.out.size5 (Below.refl _ _))).mono ?_ | refine (two_calls _ _ _ _ _ _ x y (HM5.out.cur5 K5.out (drew_b _)) (HN5.out.below (drew_b _)) (HM5.out.size5 (drew_b _))).mono ?_); rintro e w6 ⟨q, rfl, hN6, hb6⟩; have hB6 := below_first hb6; have hM6 := HM5.out.below hB6; have k6 := (hB6.block _ (blk_lt K5.out)).trans K5.out; obtain ⟨q2, q4, rfl, _, _⟩ := hN6.at_; obtain ⟨V2, z2, V4, z4, rfl, rfl⟩ := hN6.slices; have HN6 := Lib.hid hN6; have HM6 := Lib.hid hM6; have g0 := (blk_cell k6 0).trans rfl; have g1 := (blk_cell k6 1).trans rfl; have g2 := (blk_cell k6 2).trans rfl; have g3 := (blk_cell k6 3).trans rfl; have g4 := (blk_cell k6 4).trans rfl;  have f0 := blk_frozen k6 0; have f1 := blk_frozen k6 1; have f2 := blk_frozen k6 2; have f3 := blk_frozen k6 3; have f4 := blk_frozen k6 4;  clear hN6 hb6 hB6 hM6 k6))
            all_goals
              have hl5 := HM5.out.lt3
              have HM7 := Lib.hid (HM6.out.next (fun k hk hb => by rcases hk with h | h; exact h; omega) HN6.out)
              go_wp2
              go_roundg j
              case measure => omega
              case rel => exact ⟨j, twoN 4 x y, st3, Nat.le_refl _, by omega, HL2, HM7⟩
          · have hi' : beginsP l st2 = false := by simpa using hi
            rw [hi', if_neg (by decide)] at h2
            obtain rfl := Option.some.inj h2
            rw [hi'] at HBEG
            clear hi hi' h2 HL he
            go_wp2_with fail
            refine HBEG.out.mono ?_
            rintro e w4 ⟨rfl, hb4⟩
            have hM := HM.out.below hb4
            clear hb4 HBEG e1 k3e
            obtain ⟨v2, v4, k3, kN⟩ := hM.cur
            obtain ⟨B2, e2, B4, e4, rfl, rfl⟩ := kN.slices
            obtain ⟨d1, d2, d3, d4⟩ := hM.done k3
            have k2 := hM.res
            have c0 := (blk_cell k3 0).trans rfl
            have c1 := (blk_cell k3 1).trans rfl
            have c2 := (blk_cell k3 2).trans rfl
            have c3 := (blk_cell k3 3).trans rfl
            have c4 := (blk_cell k3 4).trans rfl
            have r0 := (blk_cell k2 0).trans rfl
            have r1 := (blk_cell k2 1).trans rfl
            have r2 := (blk_cell k2 2).trans rfl
            have r3 := (blk_cell k2 3).trans rfl
            have r4 := (blk_cell k2 4).trans rfl
            have f0 := blk_frozen k2 0
            have f1 := blk_frozen k2 1
            have f2 := blk_frozen k2 2
            have f3 := blk_frozen k2 3
            have f4 := blk_frozen k2 4
            have D := Lib.hid (And.intro d1 (And.intro d2 (And.intro d3 d4)))
            clear hM k2 k3 d1 d2 d3 d4 HM
            go_wp2
            refine bodyPost_ret (results_cell_row rfl _ _ W.heap.size 26 #[.int .i64 x.f0, .int .i64 x.f1, .slice B2 x.f2.length e2, .string x.f3, .slice B4 x.f4.length e4] (0, 0) _ rfl D.out.1 Tryz.underlying26 rfl (by kernel_rfl)) rfl ?_
            exact ⟨_, rfl, D.out.2.1, D.out.2.2.1, D.out.2.2.2⟩
        · have e1 : (st2.e == 0) = false := beq_eq_false_iff_ne.2 he
          rw [e1, Bool.false_and, if_neg (by decide)] at h2
          obtain rfl := Option.some.inj h2
          clear he h2 HL HBEG
          obtain ⟨w4, hw4⟩ : ∃ w4, w4 = wr := ⟨_, rfl⟩
          subst hw4
          have hM := HM.out
          obtain ⟨v2, v4, k3, kN⟩ := hM.cur
          obtain ⟨B2, e2, B4, e4, rfl, rfl⟩ := kN.slices
          obtain ⟨d1, d2, d3, d4⟩ := hM.done k3
          have k2 := hM.res
          have c0 := (blk_cell k3 0).trans rfl
          have c1 := (blk_cell k3 1).trans rfl
          have c2 := (blk_cell k3 2).trans rfl
          have c3 := (blk_cell k3 3).trans rfl
          have c4 := (blk_cell k3 4).trans rfl
          have r0 := (blk_cell k2 0).trans rfl
          have r1 := (blk_cell k2 1).trans rfl
          have r2 := (blk_cell k2 2).trans rfl
          have r3 := (blk_cell k2 3).trans rfl
          have r4 := (blk_cell k2 4).trans rfl
          have f0 := blk_frozen k2 0
          have f1 := blk_frozen k2 1
          have f2 := blk_frozen k2 2
          have f3 := blk_frozen k2 3
          have f4 := blk_frozen k2 4
          have D := Lib.hid (And.intro d1 (And.intro d2 (And.intro d3 d4)))
          clear hM k2 k3 d1 d2 d3 d4 HM
          go_wp2
          refine bodyPost_ret (results_cell_row rfl _ _ W.heap.size 26 #[.int .i64 x.f0, .int .i64 x.f1, .slice B2 x.f2.length e2, .string x.f3, .slice B4 x.f4.length e4] (0, 0) _ rfl D.out.1 Tryz.underlying26 rfl (by kernel_rfl)) rfl ?_
          exact ⟨_, rfl, D.out.2.1, D.out.2.2.1, D.out.2.2.2⟩
end
end Go.Proofs.YtfinjenkgpndlaaGreatDoor.PA

namespace Go.Proofs.YtfinjenkgpndlaaGreatDoor.PA
open Go.RowKit Go.Shelf Go.Proofs.YtfinjenkgpndlaaGreatDoorW.PrintWords Go.Proofs.YtfinjenkgpndlaaGreatDoorW.PrintLast Go.Proofs.YtfinjenkgpndlaaGreatDoorW.PrintMore
set_option linter.unusedVariables false
set_option linter.unusedSimpArgs false

structure Hit (W0 W wr : World) (g : Nat) (A : Option Addr) (c : Nat) (l : List Tok) (b2 : Nat) (st : Rd) : Prop where
  res : wr.heap[b2]? = some (.cells #[.int .i64 0, .int .i64 0, .slice none 0 0, .string ⟨#[]⟩, .slice none 0 0] 26 (0, 0))
  rd : RdAt W0 wr g A c l st
  grown : W.grownBy wr (some g)
  b2_ : b2 = W.heap.size
  ne : g < b2
section
variable {W0 W wr w1 w2 : World} {g c b2 b3 : Nat} {A : Option Addr} {l : List Tok} {x : Nd} {st st' : Rd}
theorem Hit.start (h : RdAt W0 W g A c l st) (hw1 : W.alloc (.cells #[.int .i64 0, .int .i64 0, .slice none 0 0, .string ⟨#[]⟩, .slice none 0 0] 26) = w1) : Hit W0 W w1 g A c l W.heap.size st := by
  have hb1 : Below W.heap.size W w1 := by rw [← hw1]; exact (Below.refl _ W).alloc (Nat.le_refl _) _
  exact ⟨by rw [← hw1]; exact heap_alloc_new W _, h.later hb1, grown_of_below hb1 _, rfl, h.lt⟩
theorem Hit.later (h : Hit W0 W wr g A c l b2 st) (hr : RdAt W0 w1 g A c l st') (hg : wr.grownBy w1 (some g)) : Hit W0 W w1 g A c l b2 st' := by
  have n2 := h.ne
  exact ⟨(hg.block _ (blk_lt h.res) (by intro e; cases e; omega)).trans h.res, hr, h.grown.trans hg, h.b2_, h.ne⟩
theorem Hit.below (h : Hit W0 W wr g A c l b2 st) (hb : Below wr.heap.size wr w1) : Hit W0 W w1 g A c l b2 st := h.later (h.rd.later hb) (grown_of_below hb _)
theorem Hit.i (h : Hit W0 W wr g A c l b2 st) (n : Int) : Hit W0 W (wr.setCell ⟨g, 1, none⟩ (.int .i64 n)) g A c l b2 { st with i := n } := h.later (h.rd.i n) (grown_set wr g 1 _)
theorem Hit.size (h : Hit W0 W wr g A c l b2 st) : b2 + 1 ≤ wr.heap.size := blk_lt h.res
theorem Hit.keep (h : Hit W0 W wr g A c l b2 st) {o : Obj} (k : wr.heap[b3]? = some o) (hlt : b2 < b3) (hg : wr.grownBy w1 (some g)) : w1.heap[b3]? = some o := by
  have n2 := h.ne
  exact (hg.block _ (blk_lt k) (by intro e; cases e; omega)).trans k
theorem Hit.done (h : Hit W0 W wr g A c l b2 st) {v2 v4 : Value} {P : Nat → Prop} (hN : NdP wr (b2 + 1) P (.agg #[.int .i64 x.f0, .int .i64 x.f1, v2, .string x.f3, v4]) x) :
    (((((wr.setCell ⟨b2, 0, none⟩ (.int .i64 x.f0)).setCell ⟨b2, 1, none⟩ (.int .i64 x.f1)).setCell ⟨b2, 2, none⟩ v2).setCell ⟨b2, 3, none⟩ (.string x.f3)).setCell ⟨b2, 4, none⟩ v4).heap[b2]? = some (.cells #[.int .i64 x.f0, .int .i64 x.f1, v2, .string x.f3, v4] 26 (0, 0)) ∧
    NdV (((((wr.setCell ⟨b2, 0, none⟩ (.int .i64 x.f0)).setCell ⟨b2, 1, none⟩ (.int .i64 x.f1)).setCell ⟨b2, 2, none⟩ v2).setCell ⟨b2, 3, none⟩ (.string x.f3)).setCell ⟨b2, 4, none⟩ v4) W.heap.size (.agg #[.int .i64 x.f0, .int .i64 x.f1, v2, .string x.f3, v4]) x ∧
    RdAt W0 (((((wr.setCell ⟨b2, 0, none⟩ (.int .i64 x.f0)).setCell ⟨b2, 1, none⟩ (.int .i64 x.f1)).setCell ⟨b2, 2, none⟩ v2).setCell ⟨b2, 3, none⟩ (.string x.f3)).setCell ⟨b2, 4, none⟩ v4) g A c l st ∧
    W.grownBy (((((wr.setCell ⟨b2, 0, none⟩ (.int .i64 x.f0)).setCell ⟨b2, 1, none⟩ (.int .i64 x.f1)).setCell ⟨b2, 2, none⟩ v2).setCell ⟨b2, 3, none⟩ (.string x.f3)).setCell ⟨b2, 4, none⟩ v4) (some g) := by
  have hg := five_grown wr b2 (.int .i64 x.f0) (.int .i64 x.f1) v2 (.string x.f3) v4
  have n2 := h.ne
  have n4 := h.b2_
  refine ⟨five_put h.res _ _ _ _ _, ((hN.bound.grown hg fun k hk => by have := hk.2.1; omega).lower (by omega)).mono fun _ _ => trivial, ?_, ?_⟩
  · exact h.rd.sure (hg.block _ h.rd.lt (by intro e; cases e; omega)) (h.rd.below.grown hg h.rd.below.size (fun k hk => by cases hk; have := h.rd.ge; omega))
  · exact World.grownBy.andThen h.grown hg fun j hj => by cases hj; exact .inl (by omega)
theorem Hit.boxA (h : RdAt W0 W g A c l st) (hw1 : W.alloc (.cells #[.int .i64 0, .int .i64 0, .slice none 0 0, .string ⟨#[]⟩, .slice none 0 0] 26) = w1) (hb : Below w1.drew.heap.size w1.drew w2) (t : Tok) :
    Hit W0 W (w2.alloc (.cells #[.int .i64 t.f0, .int .i64 t.f1, .string t.f2, .int .i32 t.f3] 77)) g A c l W.heap.size st ∧ (w2.alloc (.cells #[.int .i64 t.f0, .int .i64 t.f1, .string t.f2, .int .i32 t.f3] 77)).heap[w2.heap.size]? = some (.cells #[.int .i64 t.f0, .int .i64 t.f1, .string t.f2, .int .i32 t.f3] 77 (0, 0)) ∧ W.heap.size < w2.heap.size := by
  have hb' : Below w1.heap.size w1 w2 := ⟨hb.os, hb.tape, hb.output, hb.size, hb.block⟩
  have hH := (Hit.start h hw1).below hb'
  exact ⟨hH.below ((Below.refl _ w2).alloc (Nat.le_refl _) _), heap_alloc_new w2 _, hH.size⟩
theorem Hit.boxB (h : RdAt W0 W g A c l st) (hw1 : W.alloc (.cells #[.int .i64 0, .int .i64 0, .slice none 0 0, .string ⟨#[]⟩, .slice none 0 0] 26) = w1)
    (hb : Below (w1.alloc (.cells #[.int .i64 0, .int .i64 0, .string ⟨#[]⟩, .int .i32 0] 77)).drew.heap.size (w1.alloc (.cells #[.int .i64 0, .int .i64 0, .string ⟨#[]⟩, .int .i32 0] 77)).drew w2)
    (ho : w2.heap[w1.heap.size]? = some (.cells #[.int .i64 0, .int .i64 0, .string ⟨#[]⟩, .int .i32 0] 77 (0, 0))) (t : Tok) :
    Hit W0 W ((((w2.setCell ⟨w1.heap.size, 0, none⟩ (.int .i64 t.f0)).setCell ⟨w1.heap.size, 1, none⟩ (.int .i64 t.f1)).setCell ⟨w1.heap.size, 2, none⟩ (.string t.f2)).setCell ⟨w1.heap.size, 3, none⟩ (.int .i32 t.f3)) g A c l W.heap.size st ∧
    ((((w2.setCell ⟨w1.heap.size, 0, none⟩ (.int .i64 t.f0)).setCell ⟨w1.heap.size, 1, none⟩ (.int .i64 t.f1)).setCell ⟨w1.heap.size, 2, none⟩ (.string t.f2)).setCell ⟨w1.heap.size, 3, none⟩ (.int .i32 t.f3)).heap[w1.heap.size]? = some (.cells #[.int .i64 t.f0, .int .i64 t.f1, .string t.f2, .int .i32 t.f3] 77 (0, 0)) ∧ W.heap.size < w1.heap.size := by
  have h1 : Below w1.heap.size w1 (w1.alloc (.cells #[.int .i64 0, .int .i64 0, .string ⟨#[]⟩, .int .i32 0] 77)).drew := by
    have := (Below.refl _ w1).alloc (Nat.le_refl _) (.cells #[.int .i64 0, .int .i64 0, .string ⟨#[]⟩, .int .i32 0] 77)
    exact ⟨this.os, this.tape, this.output, this.size, this.block⟩
  have h2 : Below w1.heap.size w1 w2 := h1.trans (hb.mono h1.size)
  have hS := Hit.start h hw1
  exact ⟨hS.below (four_below h2 (Nat.le_refl _) _ _ _ _), four_put ho _ _ _ _, hS.size⟩
end
end Go.Proofs.YtfinjenkgpndlaaGreatDoor.PA

namespace Go.Proofs.YtfinjenkgpndlaaGreatDoor.PA
open Go.RowKit Go.Shelf Go.Proofs.YtfinjenkgpndlaaGreatDoorW.PrintWords Go.Proofs.YtfinjenkgpndlaaGreatDoorW.PrintLast Go.Proofs.YtfinjenkgpndlaaGreatDoorW.PrintMore
set_option linter.unusedVariables false
set_option linter.unusedSimpArgs false
section
variable {W0 W : World} {g c : Nat} {A : Option Addr} {l : List Tok} {st : Rd}
set_option maxRecDepth 100000 in
set_option maxHeartbeats 8000000 in
theorem rep_step {k : Nat} (ih : ∀ j, j < k → Fewer W0 g A c l j) {r : Nd × Rd} (h : RdAt W0 W g A c l st) (hr : runP l k .rep st = some r) :
    Calls Tryz.prog 123 #[.pointer (some ⟨g, 0, none⟩)] W (Reads W0 W g A c l r) := by
  have hu2 := Tryz.underlying26
  cases k with
  | zero => cases hr
  | succ k =>
    obtain ⟨⟨x1, st1⟩, hc, hL⟩ := Option.bind_eq_some_iff.1 (show (runP l k .prim st).bind (fun r => runP l k (.repL r.1) r.2) = some r from hr)
    obtain ⟨w1, hw1⟩ : ∃ w1, W.alloc (.cells #[.int .i64 0, .int .i64 0, .slice none 0 0, .string ⟨#[]⟩, .slice none 0 0] 26) = w1 := ⟨_, rfl⟩
    have hb1 : Below W.heap.size W w1 := by rw [← hw1]; exact (Below.refl _ W).alloc (Nat.le_refl _) _
    have HC := Lib.hid ((ih k (by omega)).prim w1 st _ (h.later hb1) hc)
    have HL := Lib.hid hL
    have HH := Lib.hid h
    have HW1 := Lib.hid hw1
    clear ih h hr hc hL hb1
    go_enter Tryz.func123, Tryz.ntmps123
    go_wp2_with fail
    refine HC.out.mono ?_
    rintro e w2 ⟨v, rfl, hN, hR, hg⟩
    obtain ⟨v2, v4, rfl, _, _⟩ := hN.at_
    obtain ⟨A2, c2, A4, c4, rfl, rfl⟩ := hN.slices
    obtain ⟨w3, hw3⟩ : ∃ w3, w2.alloc (.cells #[.int .i64 x1.f0, .int .i64 x1.f1, .slice A2 x1.f2.length c2, .string x1.f3, .slice A4 x1.f4.length c4] 26) = w3 := ⟨_, rfl⟩
    have HM := Lib.hid (Mid.start HH.out HW1.out hN hR hg hw3)
    have HAG := Lib.hid (again_calls HM.out.rd)
    clear hN hR hg hw1 HC HW1 HH
    go_wp2_with fail
    refine HAG.out.mono ?_
    rintro e w4 ⟨rfl, h4, g4⟩
    have HM4 := Lib.hid (HM.out.later (show RdAt W0 w4 g A c l (againS l st1) from h4) g4)
    clear h4 g4 HAG HM hw3
    go_wp2
    go_loopg [4] k (fun gk vk wr => ∃ (j : Nat) (x : Nd) (st0 : Rd), vk = .int .i64 (againP l st0) ∧ j ≤ gk ∧ j ≤ k ∧ Hid (runP l j (.repL x) st0 = some r) ∧ Hid (Mid W0 W wr g A c l W.heap.size w2.heap.size x (againS l st0)))
    case atStart => exact ⟨k, x1, st1, rfl, Nat.le_refl _, Nat.le_refl _, HL, HM4⟩
    case round =>
      clear HL HM4
      obtain ⟨j, x, st0, rfl, hj, hjk, HL, HM⟩ := hrel
      cases j with
      | zero => cases HL.out
      | succ j =>
        have h2 : (if againP l st0 == 0 then some (x, st0) else runP l j (.repL (oneN (againP l st0) x)) (adv st0)) = some r := HL.out
        have hs : againS l st0 = if againP l st0 == 0 then st0 else adv st0 := rfl
        generalize againP l st0 = ag at *
        by_cases ha : ag = 0
        · subst ha
          rw [if_pos (by rfl)] at h2 hs
          obtain rfl := Option.some.inj h2
          rw [hs] at HM
          have hM := HM.out
          obtain ⟨v2, v4, k3, kN⟩ := hM.cur
          obtain ⟨B2, e2, B4, e4, rfl, rfl⟩ := kN.slices
          obtain ⟨d1, d2, d3, d4⟩ := hM.done k3
          have k2 := hM.res
          have c0 := (blk_cell k3 0).trans rfl
          have c1 := (blk_cell k3 1).trans rfl
          have c2 := (blk_cell k3 2).trans rfl
          have c3 := (blk_cell k3 3).trans rfl
          have c4 := (blk_cell k3 4).trans rfl
          have r0 := (blk_cell k2 0).trans rfl
          have r1 := (blk_cell k2 1).trans rfl
          have r2 := (blk_cell k2 2).trans rfl
          have r3 := (blk_cell k2 3).trans rfl
          have r4 := (blk_cell k2 4).trans rfl
          have f0 := blk_frozen k2 0
          have f1 := blk_frozen k2 1
          have f2 := blk_frozen k2 2
          have f3 := blk_frozen k2 3
          have f4 := blk_frozen k2 4
          have D := Lib.hid (And.intro d1 (And.intro d2 (And.intro d3 d4)))
          clear hM k2 k3 d1 d2 d3 d4 HM h2 hs HL
          go_wp2
          refine bodyPost_ret (results_cell_row rfl _ _ W.heap.size 26 #[.int .i64 x.f0, .int .i64 x.f1, .slice B2 x.f2.length e2, .string x.f3, .slice B4 x.f4.length e4] (0, 0) _ rfl D.out.1 Tryz.underlying26 rfl (by kernel_rfl)) rfl ?_
          exact ⟨_, rfl, D.out.2.1, D.out.2.2.1, D.out.2.2.2⟩
        · have e1 : (ag == 0) = false := beq_eq_false_iff_ne.2 ha
          have e2 : (ag != 0) = true := by simp [ha]
          rw [e1, if_neg (by decide)] at h2 hs
          rw [hs] at HM
          have HL2 := Lib.hid h2
          have hM := HM.out
          obtain ⟨v2, v4, k3, kN⟩ := hM.cur
          obtain ⟨B2, q2, B4, q4, rfl, rfl⟩ := kN.slices
          obtain ⟨cs, ecs, hl, hN6⟩ := kN.one (by have := hM.lt3; have := hM.lt; omega) ag
          obtain rfl : [.int .i64 x.f0, .int .i64 x.f1, .slice B2 x.f2.length q2, .string x.f3, .slice B4 x.f4.length q4] = cs := by
            have := congrArg (fun v => match v with | .agg a => a.toList | _ => []) ecs
            simpa using this
          obtain ⟨w5, hw5⟩ : ∃ w5, wr.alloc (.cells #[.int .i64 x.f0, .int .i64 x.f1, .slice B2 x.f2.length q2, .string x.f3, .slice B4 x.f4.length q4] 26) = w5 := ⟨_, rfl⟩
          have hb5 : Below wr.heap.size wr w5 := by rw [← hw5]; exact (Below.refl _ wr).alloc (Nat.le_refl _) _
          have hN6' : NdP w5 (W.heap.size + 1) (fun j => j ≠ w2.heap.size ∨ j = wr.heap.size) (.agg #[.int .i64 (oneN ag x).f0, .int .i64 (oneN ag x).f1, .slice none 0 0, .string (oneN ag x).f3, .slice (some ⟨wr.heap.size, 0, none⟩) 1 1]) (oneN ag x) := by rw [← hw5]; exact hN6
          have hM5 := hM.below hb5
          have h3 := hM.lt3
          have HM7 := Lib.hid (hM5.next (fun k hk hb => by rcases hk with h | h; exact h; omega) hN6')
          have HAG := Lib.hid (again_calls HM7.out.rd)
          have k5 := (hb5.block _ h3).trans k3
          have c0 := (blk_cell k3 0).trans rfl
          have c1 := (blk_cell k3 1).trans rfl
          have c2 := (blk_cell k3 2).trans rfl
          have c3 := (blk_cell k3 3).trans rfl
          have c4 := (blk_cell k3 4).trans rfl
          have d0 := (blk_cell k5 0).trans rfl
          have d1 := (blk_cell k5 1).trans rfl
          have d2 := (blk_cell k5 2).trans rfl
          have d3 := (blk_cell k5 3).trans rfl
          have d4 := (blk_cell k5 4).trans rfl
          have f0 := blk_frozen k5 0
          have f1 := blk_frozen k5 1
          have f2 := blk_frozen k5 2
          have f3 := blk_frozen k5 3
          have f4 := blk_frozen k5 4
          clear hM hM5 k3 k5 kN ecs hl hN6 hN6' hb5 HM HL h2 hs
          go_wp2_with fail
          refine HAG.out.mono ?_
          rintro e w8 ⟨rfl, h8, g8⟩
          have HM8 := Lib.hid (HM7.out.later (show RdAt W0 w8 g A c l (againS l (adv st0)) from h8) g8)
          clear h8 g8 HAG HM7
          go_wp2
          go_roundg j
          case measure => omega
          case rel => exact ⟨j, oneN ag x, adv st0, rfl, Nat.le_refl _, by omega, HL2, HM8⟩
end
end Go.Proofs.YtfinjenkgpndlaaGreatDoor.PA

namespace Go.Proofs.YtfinjenkgpndlaaGreatDoor.PA
open Go.RowKit Go.Shelf Go.Proofs.YtfinjenkgpndlaaGreatDoorW.PrintWords Go.Proofs.YtfinjenkgpndlaaGreatDoorW.PrintLast Go.Proofs.YtfinjenkgpndlaaGreatDoorW.PrintMore
set_option linter.unusedVariables false
set_option linter.unusedSimpArgs false
theorem failsP_op (st : Rd) (a e : Int) : (failsP st a e).op = st.op := by unfold failsP; split <;> rfl
theorem mustP_op (l : List Tok) (st : Rd) (c : UInt8) : (mustP l st c).op = st.op := by unfold mustP; split; rfl; exact failsP_op _ _ _
theorem runP_op (l : List Tok) : ∀ (k : Nat) (m : Md) (st : Rd) (r : Nd × Rd), runP l k m st = some r → r.2.op = st.op := by
  intro k
  induction k with
  | zero => intro m st r h; cases h
  | succ k ih =>
    intro m st r h
    cases m with
    | alt =>
      obtain ⟨x, h1, h2⟩ := Option.bind_eq_some_iff.1 (show (runP l k .cat st).bind (fun r => runP l k (.altL r.1) r.2) = some r from h)
      rw [ih _ _ _ h2, ih _ _ _ h1]
    | altL e =>
      replace h : (if isP l st 124 then (runP l k .cat (adv st)).bind fun r => runP l k (.altL (twoN 5 e r.1)) r.2 else some (e, st)) = some r := h
      split at h
      · obtain ⟨x, h1, h2⟩ := Option.bind_eq_some_iff.1 h
        rw [ih _ _ _ h2, ih _ _ _ h1]; rfl
      · cases h; rfl
    | cat =>
      obtain ⟨x, h1, h2⟩ := Option.bind_eq_some_iff.1 (show (runP l k .rep st).bind (fun r => runP l k (.catL r.1) r.2) = some r from h)
      rw [ih _ _ _ h2, ih _ _ _ h1]
    | catL e =>
      replace h : (if st.e == 0 && beginsP l st then (runP l k .rep st).bind fun r => runP l k (.catL (twoN 4 e r.1)) r.2 else some (e, st)) = some r := h
      split at h
      · obtain ⟨x, h1, h2⟩ := Option.bind_eq_some_iff.1 h
        rw [ih _ _ _ h2, ih _ _ _ h1]
      · cases h; rfl
    | rep =>
      obtain ⟨x, h1, h2⟩ := Option.bind_eq_some_iff.1 (show (runP l k .prim st).bind (fun r => runP l k (.repL r.1) r.2) = some r from h)
      rw [ih _ _ _ h2, ih _ _ _ h1]
    | repL e =>
      replace h : (if againP l st == 0 then some (e, st) else runP l k (.repL (oneN (againP l st) e)) (adv st)) = some r := h
      split at h
      · cases h; rfl
      · rw [ih _ _ _ h]; rfl
    | prim =>
      replace h : (if st.e == 0 then
        if (nowP l st.i).f0 == 1 then some ((⟨2, (nowP l st.i).f1, [], (nowP l st.i).f2, []⟩ : Nd), adv st)
        else if (nowP l st.i).f0 == 4 then some (⟨1, (nowP l st.i).f1, [⟨(nowP l st.i).f3, (nowP l st.i).f3⟩], ⟨#[]⟩, []⟩, adv st)
        else if (nowP l st.i).f0 == 5 then none
        else if isP l st 46 then some (⟨1, (nowP l st.i).f1, [⟨0, 1114111⟩], ⟨#[]⟩, []⟩, adv st)
        else if isP l st 91 then none
        else if isP l st 40 then runP l k (.bracket st.i (nowP l st.i).f1) (adv st)
        else some (zNd, failsP st st.i 70)
      else some (zNd, st)) = some r := h
      split at h
      · split at h
        · cases h; rfl
        · split at h
          · cases h; rfl
          · split at h
            · cases h
            · split at h
              · cases h; rfl
              · split at h
                · cases h
                · split at h
                  · rw [ih _ _ _ h]; rfl
                  · cases h; exact failsP_op _ _ _
      · cases h; rfl
    | bracket a p =>
      replace h : (if 20 ≤ st.op then some (zNd, failsP st a 71) else if isP l st 41 then some ((⟨3, p, [], ⟨#[]⟩, []⟩ : Nd), adv st) else (runP l k .alt { st with op := st.op + 1 }).bind fun r => some (r.1, mustP l { r.2 with op := r.2.op - 1 } 41)) = some r := h
      split at h
      · cases h; exact failsP_op _ _ _
      · split at h
        · cases h; rfl
        · obtain ⟨x, h1, h2⟩ := Option.bind_eq_some_iff.1 h
          cases h2
          rw [mustP_op]
          have := ih _ _ _ h1
          show x.2.op - 1 = st.op
          rw [this]
          show st.op + 1 - 1 = st.op
          omega
section
variable {W0 W w1 : World} {g c b2 : Nat} {A : Option Addr} {l : List Tok} {st : Rd}
theorem Hit.op (h : Hit W0 W w1 g A c l b2 st) (n : Int) (hn : 0 ≤ n) : Hit W0 W (w1.setCell ⟨g, 2, none⟩ (.int .i64 n)) g A c l b2 { st with op := n } := h.later (h.rd.op n hn) (grown_set w1 g 2 _)
set_option maxRecDepth 100000 in
set_option maxHeartbeats 8000000 in
theorem bracket_step {k : Nat} (ih : ∀ j, j < k → Fewer W0 g A c l j) {r : Nd × Rd} {a p : Int} (h : RdAt W0 W g A c l st) (hr : runP l k (.bracket a p) st = some r) :
    Calls Tryz.prog 156 #[.pointer (some ⟨g, 0, none⟩), .int .i64 a, .int .i64 p] W (Reads W0 W g A c l r) := by
  have hu := Tryz.underlying105
  have hu2 := Tryz.underlying26
  cases k with
  | zero => cases hr
  | succ k =>
    have hr2 : (if 20 ≤ st.op then some (zNd, failsP st a 71) else if isP l st 41 then some ((⟨3, p, [], ⟨#[]⟩, []⟩ : Nd), adv st) else (runP l k .alt { st with op := st.op + 1 }).bind fun r => some (r.1, mustP l { r.2 with op := r.2.op - 1 } 41)) = some r := hr
    obtain ⟨w1, hw1⟩ : ∃ w1, W.alloc (.cells #[.int .i64 0, .int .i64 0, .slice none 0 0, .string ⟨#[]⟩, .slice none 0 0] 26) = w1 := ⟨_, rfl⟩
    have HP := Lib.hid (Hit.start h hw1)
    have HIH := Lib.hid (fun W st r => (ih k (by omega)).alt W st r)
    have hres := HP.out.res
    have r0 := (blk_cell hres 0).trans rfl
    have r1 := (blk_cell hres 1).trans rfl
    have r2 := (blk_cell hres 2).trans rfl
    have r3 := (blk_cell hres 3).trans rfl
    have r4 := (blk_cell hres 4).trans rfl
    have f0 := blk_frozen hres 0
    have f1 := blk_frozen hres 1
    have f2 := blk_frozen hres 2
    have f3 := blk_frozen hres 3
    have f4 := blk_frozen hres 4
    have k2 := HP.out.rd.c2
    have hop := h.op0
    have hg2 := HP.out.ne
    have n3 : ¬ (g = W.heap.size) := by omega
    have n4 : ¬ (W.heap.size = g) := by omega
    clear ih h hr hres
    by_cases h20 : 20 ≤ st.op
    · have e1 : decide (st.op ≥ 20) = true := decide_eq_true h20
      have e2 : decide (20 ≤ st.op) = true := decide_eq_true h20
      rw [if_pos h20] at hr2
      obtain rfl := Option.some.inj hr2
      have HF := Lib.hid (fails_calls HP.out.rd a 71)
      clear hr2 HIH
      go_enter Tryz.func156, Tryz.ntmps156
      go_wp2_with fail
      refine HF.out.mono ?_
      rintro e w7 ⟨⟨v, rfl⟩, h7, g7⟩
      have hP7 := HP.out.later h7 g7
      have D := Lib.hid (hP7.done (x := zNd) (NdP.zero w7 _ (fun _ => False)))
      have hres7 := hP7.res
      have p0 := (blk_cell hres7 0).trans rfl
      have p1 := (blk_cell hres7 1).trans rfl
      have p2 := (blk_cell hres7 2).trans rfl
      have p3 := (blk_cell hres7 3).trans rfl
      have p4 := (blk_cell hres7 4).trans rfl
      have y0 := blk_frozen hres7 0
      have y1 := blk_frozen hres7 1
      have y2 := blk_frozen hres7 2
      have y3 := blk_frozen hres7 3
      have y4 := blk_frozen hres7 4
      clear hP7 h7 g7 hres7 HP HF
      go_wp2
      refine bodyPost_ret (results_cell_row rfl _ _ W.heap.size 26 #[.int .i64 0, .int .i64 0, .slice none 0 0, .string ⟨#[]⟩, .slice none 0 0] (0, 0) _ rfl D.out.1 Tryz.underlying26 rfl (by kernel_rfl)) rfl ?_
      exact ⟨_, rfl, D.out.2.1, D.out.2.2.1, D.out.2.2.2⟩
    rw [if_neg h20] at hr2
    have e1 : decide (st.op ≥ 20) = false := decide_eq_false h20
    have e2 : decide (20 ≤ st.op) = false := decide_eq_false h20
    have HR := Lib.hid hr2
    have H41 := Lib.hid (may_calls HP.out.rd 41)
    unfold mayP at H41
    clear hr2
    by_cases p41 : isP l st 41 = true
    · have hr3 := HR.out
      rw [p41, if_pos rfl] at hr3
      obtain rfl := Option.some.inj hr3
      rw [p41] at H41
      clear hr3 HR HIH p41
      go_enter Tryz.func156, Tryz.ntmps156
      go_wp2_with fail
      refine H41.out.mono ?_
      rintro e w7 ⟨rfl, h7, g7⟩
      have hP7 := HP.out.later (show RdAt W0 w7 g A c l (adv st) from h7) g7
      have D := Lib.hid (hP7.done (x := ⟨3, p, [], ⟨#[]⟩, []⟩) (NdP.bare w7 _ (fun _ => False) 3 p ⟨#[]⟩))
      have hres7 := hP7.res
      have p0 := (blk_cell hres7 0).trans rfl
      have p1 := (blk_cell hres7 1).trans rfl
      have p2 := (blk_cell hres7 2).trans rfl
      have p3 := (blk_cell hres7 3).trans rfl
      have p4 := (blk_cell hres7 4).trans rfl
      have y0 := blk_frozen hres7 0
      have y1 := blk_frozen hres7 1
      have y2 := blk_frozen hres7 2
      have y3 := blk_frozen hres7 3
      have y4 := blk_frozen hres7 4
      clear hP7 h7 g7 hres7 HP H41
      go_wp2
      refine bodyPost_ret (results_cell_row rfl _ _ W.heap.size 26 #[.int .i64 3, .int .i64 p, .slice none 0 0, .string ⟨#[]⟩, .slice none 0 0] (0, 0) _ rfl D.out.1 Tryz.underlying26 rfl (by kernel_rfl)) rfl ?_
      exact ⟨_, rfl, D.out.2.1, D.out.2.2.1, D.out.2.2.2⟩
    have q41 : isP l st 41 = false := by simpa using p41
    have hr3 := HR.out
    rw [q41, if_neg (by decide)] at hr3
    obtain ⟨x, hA, hx⟩ := Option.bind_eq_some_iff.1 hr3
    obtain rfl := Option.some.inj hx
    rw [q41] at H41
    have hox : x.2.op = st.op + 1 := runP_op l _ _ _ _ hA
    rw [show ({ x.2 with op := x.2.op - 1 } : Rd) = { x.2 with op := st.op } by rw [show x.2.op - 1 = st.op by omega]]
    have HOX := Lib.hid hox
    have HA := Lib.hid hA
    clear hr3 HR hx p41 q41 hox hA
    go_enter Tryz.func156, Tryz.ntmps156
    go_wp2_with fail
    refine H41.out.mono ?_
    rintro e w4 ⟨rfl, h4, g4⟩
    have hP4 := HP.out.later (show RdAt W0 w4 g A c l st from h4) g4
    have c2 := hP4.rd.c2
    have fz2 := hP4.rd.fz 2
    have hw : IntKind.i64.wrap (st.op + 1) = st.op + 1 := IntWalk.i64_in _ (by omega)
    have hP5 := hP4.op (st.op + 1) (by omega)
    have HP5 := Lib.hid hP5
    have HCA := Lib.hid (HIH.out _ _ _ hP5.rd HA.out)
    clear hP4 hP5 h4 g4 H41 HP HIH k2 e1 e2
    go_wp2_with fail
    refine HCA.out.mono ?_
    rintro e w5 ⟨v, rfl, hN5, hR5, hg5⟩
    obtain ⟨v2, v4, rfl, _, _⟩ := hN5.at_
    obtain ⟨A2, z2, A4, z4, rfl, rfl⟩ := hN5.slices
    have hP6 := HP5.out.later hR5 hg5
    obtain ⟨w6, hw6⟩ : ∃ w6, w5.alloc (.cells #[.int .i64 x.1.f0, .int .i64 x.1.f1, .slice A2 x.1.f2.length z2, .string x.1.f3, .slice A4 x.1.f4.length z4] 26) = w6 := ⟨_, rfl⟩
    have hb6 : Below w5.heap.size w5 w6 := by rw [← hw6]; exact (Below.refl _ w5).alloc (Nat.le_refl _) _
    have hbox6 : w6.heap[w5.heap.size]? = some (.cells #[.int .i64 x.1.f0, .int .i64 x.1.f1, .slice A2 x.1.f2.length z2, .string x.1.f3, .slice A4 x.1.f4.length z4] 26 (0, 0)) := by rw [← hw6]; exact heap_alloc_new w5 _
    have hlt : W.heap.size < w5.heap.size := hP6.size
    have hP7 := hP6.below hb6
    have d2 : w6.cell? ⟨g, 2, none⟩ = some (.int .i64 (st.op + 1)) := by rw [← HOX.out]; exact hP7.rd.c2
    have dz2 := hP7.rd.fz 2
    have hw2 : IntKind.i64.wrap (st.op + 1 - 1) = st.op := by rw [show st.op + 1 - 1 = st.op by omega]; exact IntWalk.i64_in _ (by omega)
    have hw3 : IntKind.i64.wrap st.op = st.op := IntWalk.i64_in _ (by omega)
    have hP8 := hP7.op st.op hop
    have hbox8 := hP7.keep hbox6 hlt (grown_set w6 g 2 (.int .i64 st.op))
    have hN8 : NdP (w6.setCell ⟨g, 2, none⟩ (.int .i64 st.op)) (W.heap.size + 1) (fun _ => True) (.agg #[.int .i64 x.1.f0, .int .i64 x.1.f1, .slice A2 x.1.f2.length z2, .string x.1.f3, .slice A4 x.1.f4.length z4]) x.1 := by
      have h9 := HP5.out.size
      exact (((hN5.lower h9).below hb6).bound.grown (grown_set w6 g 2 _) (fun k hk => by have := hk.2.1; omega)).mono fun _ _ => trivial
    have HM := Lib.hid (must_calls hP8.rd 41)
    have HP8 := Lib.hid hP8
    have HBX8 := Lib.hid hbox8
    have HN8 := Lib.hid hN8
    clear hN5 hR5 hg5 hP6 hb6 hbox6 hP7 hP8 hbox8 hN8 HP5 HCA HA c2 fz2 hw
    go_wp2_with fail
    refine HM.out.mono ?_
    rintro e w9 ⟨⟨v, rfl⟩, h9, g9⟩
    have hP9 := HP8.out.later h9 g9
    have hbox9 := HP8.out.keep HBX8.out hlt g9
    have hN9 := HN8.out.bound.grown g9 (fun k hk => by have := hk.2.1; omega)
    have D := Lib.hid (hP9.done hN9)
    have hres9 := hP9.res
    have t0 := (blk_cell hbox9 0).trans rfl
    have t1 := (blk_cell hbox9 1).trans rfl
    have t2 := (blk_cell hbox9 2).trans rfl
    have t3 := (blk_cell hbox9 3).trans rfl
    have t4 := (blk_cell hbox9 4).trans rfl
    have p0 := (blk_cell hres9 0).trans rfl
    have p1 := (blk_cell hres9 1).trans rfl
    have p2 := (blk_cell hres9 2).trans rfl
    have p3 := (blk_cell hres9 3).trans rfl
    have p4 := (blk_cell hres9 4).trans rfl
    have y0 := blk_frozen hres9 0
    have y1 := blk_frozen hres9 1
    have y2 := blk_frozen hres9 2
    have y3 := blk_frozen hres9 3
    have y4 := blk_frozen hres9 4
    clear hP9 hbox9 hN9 hres9 h9 g9 HM HP8 HBX8 HN8
    go_wp2
    refine bodyPost_ret (results_cell_row rfl _ _ W.heap.size 26 #[.int .i64 x.1.f0, .int .i64 x.1.f1, .slice A2 x.1.f2.length z2, .string x.1.f3, .slice A4 x.1.f4.length z4] (0, 0) _ rfl D.out.1 Tryz.underlying26 rfl (by kernel_rfl)) rfl ?_
    exact ⟨_, rfl, D.out.2.1, D.out.2.2.1, D.out.2.2.2⟩
end
end Go.Proofs.YtfinjenkgpndlaaGreatDoor.PA

namespace Go.Proofs.YtfinjenkgpndlaaGreatDoor.PA
open Go.RowKit Go.Shelf Go.Proofs.YtfinjenkgpndlaaGreatDoorW.PrintWords Go.Proofs.YtfinjenkgpndlaaGreatDoorW.PrintLast Go.Proofs.YtfinjenkgpndlaaGreatDoorW.PrintMore
set_option linter.unusedVariables false
set_option linter.unusedSimpArgs false

theorem tok_box (w1 : World) {w2 : World} (h : Below ((w1.alloc (.cells #[.int .i64 0, .int .i64 0, .string ⟨#[]⟩, .int .i32 0] 77)).drew).heap.size ((w1.alloc (.cells #[.int .i64 0, .int .i64 0, .string ⟨#[]⟩, .int .i32 0] 77)).drew) w2) : w2.heap[w1.heap.size]? = some (.cells #[.int .i64 0, .int .i64 0, .string ⟨#[]⟩, .int .i32 0] 77 (0, 0)) := (h.block _ (by show w1.heap.size < (w1.alloc _).heap.size; simp)).trans (heap_alloc_new w1 _)
theorem ne_size {w1 W1 w2 : World} {g : Nat} (h : g < w1.heap.size) (h1 : Below w1.heap.size w1 W1) (h2 : Below W1.heap.size W1 w2) : ¬ (g = w2.heap.size) := by
  have := h1.size
  have := h2.size
  omega
section
variable {W0 W : World} {g c : Nat} {A : Option Addr} {l : List Tok} {st : Rd}
set_option maxRecDepth 100000 in
set_option maxHeartbeats 8000000 in
theorem prim_step {k : Nat} (ih : ∀ j, j < k → Fewer W0 g A c l j) {r : Nd × Rd} (h : RdAt W0 W g A c l st) (hr : runP l k .prim st = some r) :
    Calls Tryz.prog 144 #[.pointer (some ⟨g, 0, none⟩)] W (Reads W0 W g A c l r) := by
  have hu := Tryz.underlying105
  have hu2 := Tryz.underlying26
  have hu3 := Tryz.underlying77
  cases k with
  | zero => cases hr
  | succ k =>
    obtain ⟨w1, hw1⟩ : ∃ w1, W.alloc (.cells #[.int .i64 0, .int .i64 0, .slice none 0 0, .string ⟨#[]⟩, .slice none 0 0] 26) = w1 := ⟨_, rfl⟩
    have hb1 : Below W.heap.size W w1 := by rw [← hw1]; exact (Below.refl _ W).alloc (Nat.le_refl _) _
    have h1 := h.later hb1
    have k1 := h1.c1
    have HN := Lib.hid (fun W1 (hb : Below w1.heap.size w1 W1) => now_calls (h1.later hb))
    have H1 := Lib.hid h1
    have HW1 := Lib.hid hw1
    have hne1 : ¬ (g = w1.heap.size) := by have := h1.lt; omega
    have hne1' : ¬ (w1.heap.size = g) := by have := h1.lt; omega
    have HLT := Lib.hid h1.lt
    have HS := Lib.hid h
    have hmx : l.length ≤ 9223372036854775807 := h.row.2.1
    have HIH := Lib.hid (fun W st r a p => (ih k (by omega)).bracket W st r a p)
    have hr2 : (if st.e == 0 then
      if (nowP l st.i).f0 == 1 then some ((⟨2, (nowP l st.i).f1, [], (nowP l st.i).f2, []⟩ : Nd), adv st)
      else if (nowP l st.i).f0 == 4 then some (⟨1, (nowP l st.i).f1, [⟨(nowP l st.i).f3, (nowP l st.i).f3⟩], ⟨#[]⟩, []⟩, adv st)
      else if (nowP l st.i).f0 == 5 then none
      else if isP l st 46 then some (⟨1, (nowP l st.i).f1, [⟨0, 1114111⟩], ⟨#[]⟩, []⟩, adv st)
      else if isP l st 91 then none
      else if isP l st 40 then runP l k (.bracket st.i (nowP l st.i).f1) (adv st)
      else some (zNd, failsP st st.i 70)
    else some (zNd, st)) = some r := hr
    have hin := nowP_in (l := l) (i := st.i)
    generalize nowP l st.i = t at hr2 hin HN
    have HR2 := Lib.hid hr2
    have HIN := Lib.hid hin
    clear h hb1 h1 ih hr hr2 hin
    go_enter Tryz.func144, Tryz.ntmps144
    go_wp2
    go_region_held3 (fun w' => w'.cell? ⟨g, 1, none⟩ = some (.int .i64 st.i)) (first | assumption | go_keep) (first | (go_at_call 146; refine (HN.out _ (by repeat (first | exact Below.refl _ _ | apply below_drew | apply below_alloc | apply pw_below_drewN))).mono ?_; rintro e w2 ⟨rfl, hb2⟩; have hne2 : ¬ (g = w2.heap.size) := ne_size HLT.out (by repeat (first | exact Below.refl _ _ | apply below_drew | apply below_alloc | apply pw_below_drewN)) hb2; have hne2' : ¬ (w2.heap.size = g) := fun e => hne2 e.symm; have hk := cell_b hb2 (show World.cell? _ ⟨g, 1, none⟩ = some (.int .i64 st.i) by first | exact k1 | exact cell_old _ k1); (try (have ho2 := tok_box w1 hb2; have q0 := (blk_cell ho2 0).trans rfl; have q1 := (blk_cell ho2 1).trans rfl; have q2 := (blk_cell ho2 2).trans rfl; have q3 := (blk_cell ho2 3).trans rfl; have u0 := blk_frozen ho2 0; have u1 := blk_frozen ho2 1; have u2 := blk_frozen ho2 2; have u3 := blk_frozen ho2 3; have HO2 := Lib.hid ho2; clear ho2)); have HB2 := Lib.hid (below_first hb2); unfold tokV; clear hb2))
    all_goals (try rename_i _ _ hHeld)
    all_goals first
      | (have hP := Hit.boxA HS.out HW1.out HB2.out t
         obtain ⟨wX, hwX⟩ : ∃ wX, w2.alloc (.cells #[.int .i64 t.f0, .int .i64 t.f1, .string t.f2, .int .i32 t.f3] 77) = wX := ⟨_, rfl⟩
         rw [hwX] at hP ⊢
         clear hwX hHeld HB2 hk hne2 hne2'
         generalize w2.heap.size = b3 at hP ⊢)
      | (have hP := Hit.boxB HS.out HW1.out HB2.out HO2.out t
         obtain ⟨wX, hwX⟩ : ∃ wX, ((((w2.setCell ⟨w1.heap.size, 0, none⟩ (.int .i64 t.f0)).setCell ⟨w1.heap.size, 1, none⟩ (.int .i64 t.f1)).setCell ⟨w1.heap.size, 2, none⟩ (.string t.f2)).setCell ⟨w1.heap.size, 3, none⟩ (.int .i32 t.f3)) = wX := ⟨_, rfl⟩
         rw [hwX] at hP ⊢
         clear hwX hHeld HB2 hk hne2 hne2' q0 q1 q2 q3 u0 u1 u2 u3 HO2
         generalize w1.heap.size = b3 at hP ⊢)
    all_goals
      obtain ⟨hP, hbox, hlt⟩ := hP
      clear hw1 HW1 HN HS H1 k1 hne1 hne1' HLT
      have hg2 := hP.ne
      have n1 : ¬ (g = b3) := by omega
      have n2 : ¬ (b3 = g) := by omega
      have n3 : ¬ (g = W.heap.size) := by omega
      have n4 : ¬ (W.heap.size = g) := by omega
      have n5 : ¬ (b3 = W.heap.size) := by omega
      have n6 : ¬ (W.heap.size = b3) := by omega
      have HP := Lib.hid hP
      have HBX := Lib.hid hbox
      have hr2 := HR2.out
      have k3 := hP.rd.c3
      have hres := hP.res
      have t0 := (blk_cell hbox 0).trans rfl
      have t1 := (blk_cell hbox 1).trans rfl
      have t2 := (blk_cell hbox 2).trans rfl
      have t3 := (blk_cell hbox 3).trans rfl
      have r0 := (blk_cell hres 0).trans rfl
      have r1 := (blk_cell hres 1).trans rfl
      have r2 := (blk_cell hres 2).trans rfl
      have r3 := (blk_cell hres 3).trans rfl
      have r4 := (blk_cell hres 4).trans rfl
      have f0 := blk_frozen hres 0
      have f1 := blk_frozen hres 1
      have f2 := blk_frozen hres 2
      have f3 := blk_frozen hres 3
      have f4 := blk_frozen hres 4
      clear hP hbox hres
      by_cases he : st.e = 0
      rotate_left
      · have e1 : (st.e == 0) = false := beq_eq_false_iff_ne.2 he
        have e2 : (st.e != 0) = true := by simp [he]
        rw [e1, if_neg (by decide)] at hr2
        obtain rfl := Option.some.inj hr2
        have D := Lib.hid (HP.out.done (x := zNd) (NdP.zero wX _ (fun _ => False)))
        clear he hr2 HR2 HIN HIH HP HBX
        go_wp2
        refine bodyPost_ret (results_cell_row rfl _ _ W.heap.size 26 #[.int .i64 0, .int .i64 0, .slice none 0 0, .string ⟨#[]⟩, .slice none 0 0] (0, 0) _ rfl D.out.1 Tryz.underlying26 rfl (by kernel_rfl)) rfl ?_
        exact ⟨_, rfl, D.out.2.1, D.out.2.2.1, D.out.2.2.2⟩
      have e1 : (st.e == 0) = true := by simp [he]
      have e2 : (st.e != 0) = false := by simp [he]
      rw [e1, if_pos rfl] at hr2
      by_cases h1 : t.f0 = 1
      · have e3 : (t.f0 == 1) = true := by simp [h1]
        rw [e3, if_pos rfl] at hr2
        obtain rfl := Option.some.inj hr2
        have hi := HIN.out (by rw [h1]; decide)
        have hw : IntKind.i64.wrap (st.i + 1) = st.i + 1 := IntWalk.i64_in _ (by omega)
        have c1 := HP.out.rd.c1
        have fz1 := HP.out.rd.fz 1
        have D := Lib.hid ((HP.out.i (st.i + 1)).done (x := ⟨2, t.f1, [], t.f2, []⟩) (NdP.bare (wX.setCell ⟨g, 1, none⟩ (.int .i64 (st.i + 1))) _ (fun _ => False) 2 t.f1 t.f2))
        clear he h1 hr2 HR2 HIN HIH HP HBX
        go_wp2
        refine bodyPost_ret (results_cell_row rfl _ _ W.heap.size 26 #[.int .i64 2, .int .i64 t.f1, .slice none 0 0, .string t.f2, .slice none 0 0] (0, 0) _ rfl D.out.1 Tryz.underlying26 rfl (by kernel_rfl)) rfl ?_
        exact ⟨_, rfl, D.out.2.1, D.out.2.2.1, D.out.2.2.2⟩
      have e3 : (t.f0 == 1) = false := beq_eq_false_iff_ne.2 h1
      rw [e3, if_neg (by decide)] at hr2
      by_cases h4 : t.f0 = 4
      · have e4 : (t.f0 == 4) = true := by simp [h4]
        rw [e4, if_pos rfl] at hr2
        obtain rfl := Option.some.inj hr2
        have hi := HIN.out (by rw [h4]; decide)
        have hw : IntKind.i64.wrap (st.i + 1) = st.i + 1 := IntWalk.i64_in _ (by omega)
        have c1 := HP.out.rd.c1
        have fz1 := HP.out.rd.fz 1
        obtain ⟨wY, hwY⟩ : ∃ wY, wX.setCell ⟨g, 1, none⟩ (.int .i64 (st.i + 1)) = wY := ⟨_, rfl⟩
        have hY := HP.out.i (st.i + 1)
        have hboxY := HP.out.keep HBX.out hlt (grown_set wX g 1 (.int .i64 (st.i + 1)))
        rw [hwY] at hY hboxY
        obtain ⟨wZ, hwZ⟩ : ∃ wZ, wY.alloc (.cells #[.int .i32 t.f3, .int .i32 t.f3] 58) = wZ := ⟨_, rfl⟩
        have hbZ : Below wY.heap.size wY wZ := by rw [← hwZ]; exact (Below.refl _ wY).alloc (Nat.le_refl _) _
        have hN := NdP.range wY (W.heap.size + 1) hY.size t.f1 t.f3 t.f3
        rw [hwZ] at hN
        have hZ := hY.below hbZ
        have D := Lib.hid (hZ.done (x := ⟨1, t.f1, [⟨t.f3, t.f3⟩], ⟨#[]⟩, []⟩) hN)
        have hresZ := hZ.res
        clear hY hZ hN hbZ he h1 h4 hr2 HR2 HIN HIH HP HBX
        have s0 := (blk_cell hboxY 0).trans rfl
        have s1 := (blk_cell hboxY 1).trans rfl
        have s2 := (blk_cell hboxY 2).trans rfl
        have s3 := (blk_cell hboxY 3).trans rfl
        have p0 := (blk_cell hresZ 0).trans rfl
        have p1 := (blk_cell hresZ 1).trans rfl
        have p2 := (blk_cell hresZ 2).trans rfl
        have p3 := (blk_cell hresZ 3).trans rfl
        have p4 := (blk_cell hresZ 4).trans rfl
        have y0 := blk_frozen hresZ 0
        have y1 := blk_frozen hresZ 1
        have y2 := blk_frozen hresZ 2
        have y3 := blk_frozen hresZ 3
        have y4 := blk_frozen hresZ 4
        clear hboxY hresZ
        go_wp2
        refine bodyPost_ret (results_cell_row rfl _ _ W.heap.size 26 #[.int .i64 1, .int .i64 t.f1, .slice (some ⟨wY.heap.size, 0, none⟩) 1 1, .string ⟨#[]⟩, .slice none 0 0] (0, 0) _ rfl D.out.1 Tryz.underlying26 rfl (by kernel_rfl)) rfl ?_
        exact ⟨_, rfl, D.out.2.1, D.out.2.2.1, D.out.2.2.2⟩
      have e4 : (t.f0 == 4) = false := beq_eq_false_iff_ne.2 h4
      rw [e4, if_neg (by decide)] at hr2
      by_cases h5 : t.f0 = 5
      · rw [h5, if_pos (by rfl)] at hr2
        cases hr2
      have e5 : (t.f0 == 5) = false := beq_eq_false_iff_ne.2 h5
      rw [e5, if_neg (by decide)] at hr2
      have HR3 := Lib.hid hr2
      have H46 := Lib.hid (may_calls HP.out.rd 46)
      unfold mayP at H46
      clear hr2 HR2 he h1 h4 h5
      by_cases p46 : isP l st 46 = true
      · have hr3 := HR3.out
        rw [p46, if_pos rfl] at hr3
        obtain rfl := Option.some.inj hr3
        rw [p46] at H46
        clear hr3 HR3 p46
        go_wp2_with fail
        refine H46.out.mono ?_
        rintro e w4 ⟨rfl, h4, g4⟩
        have hY := HP.out.later (show RdAt W0 w4 g A c l (adv st) from h4) g4
        have hboxY := HP.out.keep HBX.out hlt g4
        obtain ⟨wZ, hwZ⟩ : ∃ wZ, w4.alloc (.cells #[.int .i32 0, .int .i32 1114111] 58) = wZ := ⟨_, rfl⟩
        have hbZ : Below w4.heap.size w4 wZ := by rw [← hwZ]; exact (Below.refl _ w4).alloc (Nat.le_refl _) _
        have hN := NdP.range w4 (W.heap.size + 1) hY.size t.f1 0 1114111
        rw [hwZ] at hN
        have hZ := hY.below hbZ
        have D := Lib.hid (hZ.done (x := ⟨1, t.f1, [⟨0, 1114111⟩], ⟨#[]⟩, []⟩) hN)
        have hresZ := hZ.res
        clear hY hZ hN hbZ h4 g4 H46 HIN HIH HP HBX
        have s0 := (blk_cell hboxY 0).trans rfl
        have s1 := (blk_cell hboxY 1).trans rfl
        have s2 := (blk_cell hboxY 2).trans rfl
        have s3 := (blk_cell hboxY 3).trans rfl
        have p0 := (blk_cell hresZ 0).trans rfl
        have p1 := (blk_cell hresZ 1).trans rfl
        have p2 := (blk_cell hresZ 2).trans rfl
        have p3 := (blk_cell hresZ 3).trans rfl
        have p4 := (blk_cell hresZ 4).trans rfl
        have y0 := blk_frozen hresZ 0
        have y1 := blk_frozen hresZ 1
        have y2 := blk_frozen hresZ 2
        have y3 := blk_frozen hresZ 3
        have y4 := blk_frozen hresZ 4
        clear hboxY hresZ
        go_wp2
        refine bodyPost_ret (results_cell_row rfl _ _ W.heap.size 26 #[.int .i64 1, .int .i64 t.f1, .slice (some ⟨w4.heap.size, 0, none⟩) 1 1, .string ⟨#[]⟩, .slice none 0 0] (0, 0) _ rfl D.out.1 Tryz.underlying26 rfl (by kernel_rfl)) rfl ?_
        exact ⟨_, rfl, D.out.2.1, D.out.2.2.1, D.out.2.2.2⟩
      have q46 : isP l st 46 = false := by simpa using p46
      rw [q46] at H46
      have hr3 := HR3.out
      rw [q46, if_neg (by decide)] at hr3
      have HR4 := Lib.hid hr3
      clear hr3 HR3 p46 q46
      go_wp2_with fail
      refine H46.out.mono ?_
      rintro e w4 ⟨rfl, h4, g4⟩
      have HP4 := Lib.hid (HP.out.later (show RdAt W0 w4 g A c l st from h4) g4)
      have HBX4 := Lib.hid (HP.out.keep HBX.out hlt g4)
      have H91 := Lib.hid (may_calls HP4.out.rd 91)
      unfold mayP at H91
      clear h4 g4 H46 HP HBX r0 r1 r2 r3 r4 f0 f1 f2 f3 f4 t0 t1 t2 t3 k3
      by_cases p91 : isP l st 91 = true
      · have hr3 := HR4.out
        rw [p91, if_pos rfl] at hr3
        cases hr3
      have q91 : isP l st 91 = false := by simpa using p91
      rw [q91] at H91
      have hr3 := HR4.out
      rw [q91, if_neg (by decide)] at hr3
      have HR5 := Lib.hid hr3
      clear hr3 HR4 p91 q91
      go_wp2_with fail
      refine H91.out.mono ?_
      rintro e w5 ⟨rfl, h5, g5⟩
      have HP5 := Lib.hid (HP4.out.later (show RdAt W0 w5 g A c l st from h5) g5)
      have HBX5 := Lib.hid (HP4.out.keep HBX4.out hlt g5)
      have H40 := Lib.hid (may_calls HP5.out.rd 40)
      unfold mayP at H40
      clear h5 g5 H91 HP4 HBX4
      by_cases p40 : isP l st 40 = true
      · have hr3 := HR5.out
        rw [p40, if_pos rfl] at hr3
        rw [p40] at H40
        have HB := Lib.hid hr3
        clear hr3 HR5 p40
        go_wp2_with fail
        refine H40.out.mono ?_
        rintro e w6 ⟨rfl, h6, g6⟩
        have hP6 := HP5.out.later (show RdAt W0 w6 g A c l (adv st) from h6) g6
        have hbox6 := HP5.out.keep HBX5.out hlt g6
        have HCB := Lib.hid (HIH.out w6 _ _ _ _ hP6.rd HB.out)
        have HP6 := Lib.hid hP6
        have t0 := (blk_cell hbox6 0).trans rfl
        have t1 := (blk_cell hbox6 1).trans rfl
        have t2 := (blk_cell hbox6 2).trans rfl
        have t3 := (blk_cell hbox6 3).trans rfl
        clear hP6 hbox6 h6 g6 H40 HP5 HBX5 HB HIH HIN
        go_wp2_with fail
        refine HCB.out.mono ?_
        rintro e w7 ⟨v, rfl, hN7, hR7, hg7⟩
        obtain ⟨v2, v4, rfl, _, _⟩ := hN7.at_
        obtain ⟨A2, z2, A4, z4, rfl, rfl⟩ := hN7.slices
        have hP7 := HP6.out.later hR7 hg7
        have D := Lib.hid (hP7.done (hN7.lower HP6.out.size))
        have hres7 := hP7.res
        have r0 := (blk_cell hres7 0).trans rfl
        have r1 := (blk_cell hres7 1).trans rfl
        have r2 := (blk_cell hres7 2).trans rfl
        have r3 := (blk_cell hres7 3).trans rfl
        have r4 := (blk_cell hres7 4).trans rfl
        have f0 := blk_frozen hres7 0
        have f1 := blk_frozen hres7 1
        have f2 := blk_frozen hres7 2
        have f3 := blk_frozen hres7 3
        have f4 := blk_frozen hres7 4
        clear hP7 hN7 hR7 hg7 hres7 HP6 HCB t0 t1 t2 t3
        go_wp2
        refine bodyPost_ret (results_cell_row rfl _ _ W.heap.size 26 #[.int .i64 r.1.f0, .int .i64 r.1.f1, .slice A2 r.1.f2.length z2, .string r.1.f3, .slice A4 r.1.f4.length z4] (0, 0) _ rfl D.out.1 Tryz.underlying26 rfl (by kernel_rfl)) rfl ?_
        exact ⟨_, rfl, D.out.2.1, D.out.2.2.1, D.out.2.2.2⟩
      have q40 : isP l st 40 = false := by simpa using p40
      rw [q40] at H40
      have hr3 := HR5.out
      rw [q40, if_neg (by decide)] at hr3
      obtain rfl := Option.some.inj hr3
      clear hr3 HR5 p40 q40
      go_wp2_with fail
      refine H40.out.mono ?_
      rintro e w6 ⟨rfl, h6, g6⟩
      have HP6 := Lib.hid (HP5.out.later (show RdAt W0 w6 g A c l st from h6) g6)
      have HF := Lib.hid (fails_calls HP6.out.rd st.i 70)
      clear h6 g6 H40 HP5 HBX5 HIH HIN
      go_wp2_with fail
      refine HF.out.mono ?_
      rintro e w7 ⟨⟨v, rfl⟩, h7, g7⟩
      have hP7 := HP6.out.later h7 g7
      have D := Lib.hid (hP7.done (x := zNd) (NdP.zero w7 _ (fun _ => False)))
      have hres7 := hP7.res
      have r0 := (blk_cell hres7 0).trans rfl
      have r1 := (blk_cell hres7 1).trans rfl
      have r2 := (blk_cell hres7 2).trans rfl
      have r3 := (blk_cell hres7 3).trans rfl
      have r4 := (blk_cell hres7 4).trans rfl
      have f0 := blk_frozen hres7 0
      have f1 := blk_frozen hres7 1
      have f2 := blk_frozen hres7 2
      have f3 := blk_frozen hres7 3
      have f4 := blk_frozen hres7 4
      clear hP7 h7 g7 hres7 HP6 HF
      go_wp2
      refine bodyPost_ret (results_cell_row rfl _ _ W.heap.size 26 #[.int .i64 0, .int .i64 0, .slice none 0 0, .string ⟨#[]⟩, .slice none 0 0] (0, 0) _ rfl D.out.1 Tryz.underlying26 rfl (by kernel_rfl)) rfl ?_
      exact ⟨_, rfl, D.out.2.1, D.out.2.2.1, D.out.2.2.2⟩
end
end Go.Proofs.YtfinjenkgpndlaaGreatDoor.PA

namespace Go.Proofs.YtfinjenkgpndlaaGreatDoor.PA
open Go.RowKit Go.Shelf Go.Proofs.YtfinjenkgpndlaaGreatDoorW.PrintWords Go.Proofs.YtfinjenkgpndlaaGreatDoorW.PrintLast Go.Proofs.YtfinjenkgpndlaaGreatDoorW.PrintMore
set_option linter.unusedVariables false
set_option linter.unusedSimpArgs false

theorem fewer {W0 : World} {g c : Nat} {A : Option Addr} {l : List Tok} (k : Nat) : Fewer W0 g A c l k := by
  induction k using Nat.strongRecOn with
  | _ k ih => exact ⟨fun W st r h hr => alt_step ih h hr, fun W st r h hr => cat_step ih h hr, fun W st r h hr => rep_step ih h hr, fun W st r h hr => prim_step ih h hr, fun W st r a p h hr => bracket_step ih h hr⟩
def readP (l : List Tok) (from_ : Int) : Option (Nd × Rd) := runP l (100 * l.length + 1000) .alt ⟨from_, 0, 0, 0⟩
theorem readP_run {l : List Tok} {f : Int} {r : Nd × Rd} (h : readP l f = some r) : ∃ k, runP l k .alt ⟨f, 0, 0, 0⟩ = some r := ⟨_, h⟩
def regex_Read.f (l : List Tok) (from_ : Int) : Option (Int × Int × List S58 × ByteArray × List S26 × Int × Int) :=
  (readP l from_).bind fun r => if r.2.e == 0 then some (r.1.f0, r.1.f1, r.1.f2, r.1.f3, r.1.f4, r.2.i, 0) else some (0, 0, [], ⟨#[]⟩, [], r.2.at_, r.2.e)
section
variable {l : List Tok} {c : Nat} {A : Option Addr}
set_option maxRecDepth 100000 in
set_option maxHeartbeats 8000000 in
theorem regex_Read.calls (A : Option Addr) (c : Nat) (l : List S77) (from_ : Int) (r1 r2 : Int) (r3 : List S58) (r4 : ByteArray) (r5 : List S26) (r6 r7 : Int) (W : World) (hrow : Kd.C k77 W A l.length l) (hcap : l.length ≤ c) (h : regex_Read.f l from_ = some (r1, r2, r3, r4, r5, r6, r7)) :
    Calls Tryz.prog 41 #[.slice A l.length c, .int .i64 from_] W fun e w' => ∃ v2_ v4_ : Value, e = .returned (.tuple #[.agg #[.int .i64 r1, .int .i64 r2, v2_, .string r4, v4_], .int .i64 r6, .int .i64 r7]) ∧ Kd.R k58 58 w' W.heap.size (fun _ => True) v2_ r3 ∧ Kd.R k26 26 w' W.heap.size (fun k_ => some k_ ≠ (v2_ : Value).ownBlock) v4_ r5 ∧ Below W.heap.size W w' := by
  have hu := Tryz.underlying105
  have hu2 := Tryz.underlying26
  obtain ⟨x, hx, hres⟩ := Option.bind_eq_some_iff.1 h
  obtain ⟨k, hk⟩ := readP_run hx
  obtain ⟨w1, hw1⟩ : ∃ w1, W.alloc (.cells #[.int .i64 0, .int .i64 0, .slice none 0 0, .string ⟨#[]⟩, .slice none 0 0] 26) = w1 := ⟨_, rfl⟩
  have hb1 : Below W.heap.size W w1 := by rw [← hw1]; exact (Below.refl _ W).alloc (Nat.le_refl _) _
  have ho1 : w1.heap[W.heap.size]? = some (.cells #[.int .i64 0, .int .i64 0, .slice none 0 0, .string ⟨#[]⟩, .slice none 0 0] 26 (0, 0)) := by rw [← hw1]; exact heap_alloc_new W _
  obtain ⟨w2, hw2⟩ : ∃ w2, w1.alloc (.cells #[.slice A l.length c, .int .i64 from_, .int .i64 0, .int .i64 0, .int .i64 0] 105) = w2 := ⟨_, rfl⟩
  have hb2 : Below w1.heap.size w1 w2 := by rw [← hw2]; exact (Below.refl _ w1).alloc (Nat.le_refl _) _
  have hR : RdAt w1 w2 w1.heap.size A c l ⟨from_, 0, 0, 0⟩ := ⟨by rw [← hw2]; exact heap_alloc_new w1 _, hb2, Nat.le_refl _, Kd.C_below hrow hb1, hcap, Int.le_refl 0⟩
  have HC := Lib.hid ((fewer k).alt w2 _ _ hR hk)
  have hlt : W.heap.size < w1.heap.size := blk_lt ho1
  have HB1 := Lib.hid hb1
  have HO1 := Lib.hid ho1
  have HB2 := Lib.hid hb2
  have HRES := Lib.hid hres
  clear h hx hb1 ho1 hb2 hR hk hrow hcap hres
  go_enter Tryz.func41, Tryz.ntmps41
  go_wp2_with fail
  refine HC.out.mono ?_
  rintro e w3 ⟨v, rfl, hN, hR3, hg⟩
  obtain ⟨v2, v4, rfl, _, _⟩ := hN.at_
  obtain ⟨A2, c2, A4, c4, rfl, rfl⟩ := hN.slices
  have hsz := hg.size
  have hlt2 : w1.heap.size < w2.heap.size := by rw [← hw2]; simp
  obtain ⟨w4, hw4⟩ : ∃ w4, w3.alloc (.cells #[.int .i64 x.1.f0, .int .i64 x.1.f1, .slice A2 x.1.f2.length c2, .string x.1.f3, .slice A4 x.1.f4.length c4] 26) = w4 := ⟨_, rfl⟩
  have hb4 : Below w3.heap.size w3 w4 := by rw [← hw4]; exact (Below.refl _ w3).alloc (Nat.le_refl _) _
  have hbox : w4.heap[w3.heap.size]? = some (.cells #[.int .i64 x.1.f0, .int .i64 x.1.f1, .slice A2 x.1.f2.length c2, .string x.1.f3, .slice A4 x.1.f4.length c4] 26 (0, 0)) := by rw [← hw4]; exact heap_alloc_new w3 _
  have ho3 : w3.heap[W.heap.size]? = some (.cells #[.int .i64 0, .int .i64 0, .slice none 0 0, .string ⟨#[]⟩, .slice none 0 0] 26 (0, 0)) := (hg.block _ (by omega) (by intro e; have := Option.some.inj e; omega)).trans ((HB2.out.block _ (by omega)).trans HO1.out)
  have ho4 := (hb4.block _ (by omega)).trans ho3
  have hR4 := hR3.later hb4
  have hbW : Below W.heap.size W w4 := HB1.out.trans (hR4.below.mono HB1.out.size)
  have hN4 : NdP w4 (W.heap.size + 1) (fun _ => True) (.agg #[.int .i64 x.1.f0, .int .i64 x.1.f1, .slice A2 x.1.f2.length c2, .string x.1.f3, .slice A4 x.1.f4.length c4]) x.1 := (hN.below hb4).lower (by omega)
  have k1 := hR4.c1
  have k3 := hR4.c3
  have k4 := hR4.c4
  have t0 := (blk_cell hbox 0).trans rfl
  have t1 := (blk_cell hbox 1).trans rfl
  have t2 := (blk_cell hbox 2).trans rfl
  have t3 := (blk_cell hbox 3).trans rfl
  have t4 := (blk_cell hbox 4).trans rfl
  have p0 := (blk_cell ho4 0).trans rfl
  have p1 := (blk_cell ho4 1).trans rfl
  have p2 := (blk_cell ho4 2).trans rfl
  have p3 := (blk_cell ho4 3).trans rfl
  have p4 := (blk_cell ho4 4).trans rfl
  have y0 := blk_frozen ho4 0
  have y1 := blk_frozen ho4 1
  have y2 := blk_frozen ho4 2
  have y3 := blk_frozen ho4 3
  have y4 := blk_frozen ho4 4
  have n1 : ¬ (w1.heap.size = W.heap.size) := by omega
  have n2 : ¬ (W.heap.size = w1.heap.size) := by omega
  have n3 : ¬ (w3.heap.size = W.heap.size) := by omega
  have n4 : ¬ (W.heap.size = w3.heap.size) := by omega
  have n5 : ¬ (w3.heap.size = w1.heap.size) := by omega
  have n6 : ¬ (w1.heap.size = w3.heap.size) := by omega
  have HO4 := Lib.hid ho4
  have HN4 := Lib.hid hN4
  have HBW := Lib.hid hbW
  clear hN hR3 hg hsz hlt2 hb4 hbox ho3 ho4 hR4 hbW hN4 HC hw1 HB1 HO1 HB2
  generalize w1.heap.size = g at *
  by_cases he : x.2.e = 0
  · have e1 : (x.2.e == 0) = true := by simp [he]
    have e2 : (x.2.e != 0) = false := by simp [he]
    have hr := HRES.out
    rw [e1, if_pos rfl] at hr
    simp only [Option.some.injEq, Prod.mk.injEq] at hr
    obtain ⟨rfl, rfl, rfl, rfl, rfl, rfl, rfl⟩ := hr
    clear he HRES k4
    go_wp2
    go_region_held3 (fun w' => w'.cell? ⟨g, 1, none⟩ = some (.int .i64 x.2.i) ∧ w'.cell? ⟨w3.heap.size, 0, none⟩ = some (.int .i64 x.1.f0) ∧ w'.cell? ⟨w3.heap.size, 1, none⟩ = some (.int .i64 x.1.f1) ∧ w'.cell? ⟨w3.heap.size, 2, none⟩ = some (.slice A2 x.1.f2.length c2) ∧ w'.cell? ⟨w3.heap.size, 3, none⟩ = some (.string x.1.f3) ∧ w'.cell? ⟨w3.heap.size, 4, none⟩ = some (.slice A4 x.1.f4.length c4)) (first | with_reducible assumption | (refine ⟨?_, ?_, ?_, ?_, ?_, ?_⟩ <;> with_reducible assumption) | go_keep) (fail)
    go_wp2
    have hgX := five_grown w4 W.heap.size (.int .i64 x.1.f0) (.int .i64 x.1.f1) (.slice A2 x.1.f2.length c2) (.string x.1.f3) (.slice A4 x.1.f4.length c4)
    have hoX := five_put HO4.out (.int .i64 x.1.f0) (.int .i64 x.1.f1) (.slice A2 x.1.f2.length c2) (.string x.1.f3) (.slice A4 x.1.f4.length c4)
    have hNX := (HN4.out.bound.grown hgX (fun k hk => by have := hk.2.1; omega)).lower (Nat.le_succ _)
    have hbX := new_grown HBW.out hgX HBW.out.size (Nat.le_refl _)
    refine bodyPost_ret (results_ctt rfl _ _ W.heap.size 26 #[.int .i64 x.1.f0, .int .i64 x.1.f1, .slice A2 x.1.f2.length c2, .string x.1.f3, .slice A4 x.1.f4.length c4] (0, 0) _ rfl hoX Tryz.underlying26 rfl (by kernel_rfl)) rfl ?_
    obtain ⟨u2, u4, e, h1, h2⟩ := (hNX.below (drew_b _)).at_
    simp only [Value.agg.injEq, Array.mk.injEq, List.cons.injEq, and_true, true_and] at e
    obtain ⟨rfl, rfl⟩ := e
    exact ⟨_, _, rfl, Kd.R_mono h1 (fun _ _ => trivial), Kd.R_mono h2 (fun k hk => hk.2), ⟨hbX.os, hbX.tape, hbX.output, hbX.size, hbX.block⟩⟩
  · have e1 : (x.2.e == 0) = false := beq_eq_false_iff_ne.2 he
    have e2 : (x.2.e != 0) = true := by simp [he]
    have hr := HRES.out
    rw [e1, if_neg (by decide)] at hr
    simp only [Option.some.injEq, Prod.mk.injEq] at hr
    obtain ⟨rfl, rfl, rfl, rfl, rfl, rfl, rfl⟩ := hr
    clear he HRES k1
    go_wp2
    go_region_held3 (fun w' => w'.cell? ⟨g, 3, none⟩ = some (.int .i64 x.2.e) ∧ w'.cell? ⟨g, 4, none⟩ = some (.int .i64 x.2.at_)) (first | with_reducible assumption | (refine ⟨?_, ?_⟩ <;> with_reducible assumption) | go_keep) (fail)
    go_wp2
    have hgX := five_grown w4 W.heap.size (.int .i64 0) (.int .i64 0) (.slice none 0 0) (.string ⟨#[]⟩) (.slice none 0 0)
    have hoX := five_put HO4.out (.int .i64 0) (.int .i64 0) (.slice none 0 0) (.string ⟨#[]⟩) (.slice none 0 0)
    have hbX := new_grown HBW.out hgX HBW.out.size (Nat.le_refl _)
    refine bodyPost_ret (results_ctt rfl _ _ W.heap.size 26 #[.int .i64 0, .int .i64 0, .slice none 0 0, .string ⟨#[]⟩, .slice none 0 0] (0, 0) _ rfl hoX Tryz.underlying26 rfl (by kernel_rfl)) rfl ?_
    exact ⟨_, _, rfl, Kd.R_nil _ _ _ _ _, Kd.R_nil _ _ _ _ _, ⟨hbX.os, hbX.tape, hbX.output, hbX.size, hbX.block⟩⟩
end
end Go.Proofs.YtfinjenkgpndlaaGreatDoor.PA

namespace Go.Proofs.YtfinjenkgpndlaaGreatDoor.PA
open Go.RowKit Go.Proofs.YtfinjenkgpndlaaGreatDoorW.PrintWords Go.Proofs.YtfinjenkgpndlaaGreatDoorW.PrintLast Go.Proofs.YtfinjenkgpndlaaGreatDoorW.PrintMore
attribute [local go_sem] max2_int min2_int max_two min_two max_three min_three max_four min_four   -- for this text's walks alone
set_option linter.unusedVariables false
set_option linter.unusedSimpArgs false

def regex_Parse.j0 : Nat → List (S77) → Int → Int → Bool → Int → Int → List (S58) → ByteArray → List (S26) → Option (Int × Int × (List (S58)) × ByteArray × (List (S26)) × Int × Int)
 | 0, _, _, _, _, _, _, _, _, _ => none
 | k + 1, x5, x7, x9, x36, x176000, x176001, x176002, x176003, x176004 => if x36 = true then (if 70 = 0 then (some (x176000, x176001, x176002, x176003, x176004, 0, 0)) else (if 0 ≤ (mn x9 (wrap64 ((x5.length : Int) - 1))) then (if (mn x9 (wrap64 ((x5.length : Int) - 1))) < (x5.length : Int) then (some (0, 0, ([] : List (S58)), (⟨#[]⟩ : ByteArray), ([] : List (S26)), (rd_T77 x5 (mn x9 (wrap64 ((x5.length : Int) - 1)))).f1, 70)) else (none)) else (none))) else (if x7 = 0 then (some (x176000, x176001, x176002, x176003, x176004, 0, 0)) else (if 0 ≤ (mn x9 (wrap64 ((x5.length : Int) - 1))) then (if (mn x9 (wrap64 ((x5.length : Int) - 1))) < (x5.length : Int) then (some (0, 0, ([] : List (S58)), (⟨#[]⟩ : ByteArray), ([] : List (S26)), (rd_T77 x5 (mn x9 (wrap64 ((x5.length : Int) - 1)))).f1, x7)) else (none)) else (none)))
def regex_Parse.f (k : Nat) (a0 : ByteArray) : Option (Int × Int × (List (S58)) × ByteArray × (List (S26)) × Int × Int) := (lex_Scan.f a0).bind fun bt159 => (if bt159.2.2 = 0 then ((regex_Read.f bt159.1 0).bind fun bt164 => (if bt164.2.2.2.2.2.2 = 0 then (if 0 ≤ bt164.2.2.2.2.2.1 then (if bt164.2.2.2.2.2.1 < (bt159.1.length : Int) then (regex_Parse.j0 k bt159.1 bt164.2.2.2.2.2.2 bt164.2.2.2.2.2.1 (((rd_T77 bt159.1 bt164.2.2.2.2.2.1).f0) != 0) bt164.1 bt164.2.1 bt164.2.2.1 bt164.2.2.2.1 bt164.2.2.2.2.1) else (none)) else (none)) else (regex_Parse.j0 k bt159.1 bt164.2.2.2.2.2.2 bt164.2.2.2.2.2.1 false bt164.1 bt164.2.1 bt164.2.2.1 bt164.2.2.2.1 bt164.2.2.2.2.1))) else (some (0, 0, ([] : List (S58)), (⟨#[]⟩ : ByteArray), ([] : List (S26)), bt159.2.1, bt159.2.2)))
theorem regex_Parse.mono_l : ∀ k, (∀ y0 y1 y2 y3 y4 y5 y6 y7 y8, LeO (regex_Parse.j0 k y0 y1 y2 y3 y4 y5 y6 y7 y8) (regex_Parse.j0 (k + 1) y0 y1 y2 y3 y4 y5 y6 y7 y8))
 | 0 => fun _ _ _ _ _ _ _ _ _ r h => by simp [regex_Parse.j0] at h
 | k + 1 => by
  have ih0 := regex_Parse.mono_l k
  ·intro y0 y1 y2 y3 y4 y5 y6 y7 y8
   unfold regex_Parse.j0
   repeat' first
   | (with_reducible exact ih0 _ _ _ _ _ _ _ _ _)
   | (with_reducible exact LeO.refl _)
   | (with_reducible exact LeO.none _)
   | (with_reducible refine LeO.ite ?_ ?_)
   | (with_reducible refine LeO.bind ?_ (fun _ => ?_))
   | exact ih0 _ _ _ _ _ _ _ _ _
   | exact LeO.none _
   | refine LeO.ite ?_ ?_
   | refine LeO.bind ?_ (fun _ => ?_)
theorem regex_Parse.mono : ∀ a0 k, LeO (regex_Parse.f k a0) (regex_Parse.f (k + 1) a0) := by
 intro a0 k
 have ih0 := regex_Parse.mono_l k
 unfold regex_Parse.f
 repeat' first
   | (with_reducible exact ih0 _ _ _ _ _ _ _ _ _)
   | (with_reducible exact LeO.refl _)
   | (with_reducible exact LeO.none _)
   | (with_reducible refine LeO.ite ?_ ?_)
   | (with_reducible refine LeO.bind ?_ (fun _ => ?_))
   | exact ih0 _ _ _ _ _ _ _ _ _
   | exact LeO.none _
   | refine LeO.ite ?_ ?_
   | refine LeO.bind ?_ (fun _ => ?_)
def regex_Parse.T8 : Bool × List (List Nat × List Nat) := (true, [([], []), ([], []), ([], []), ([], []), ([3], [3]), ([4], [4]), ([2, 5], [2, 5]), ([1, 6], [1, 6]), ([7], [7]), ([8], [8]), ([], []), ([0, 0], [0]), ([9, 11, 0, 1, 2, 3, 4, 5, 6, 7, 8, 9, 11], [9]), ([10, 12, 0, 1, 2, 3, 4, 5, 6, 7, 8, 9, 10, 11, 12], [10])])
def regex_Parse.B8 : List Nat := [0, 0, 0, 0, 8, 24, 60, 126, 254, 510, 0, 1, 3071, 8191]
theorem regex_Parse.tab8 : rtab .any (opsOf Tryz.f13 8) = regex_Parse.T8 := by kernel_rfl
theorem regex_Parse.bits8 : waitsOk regex_Parse.T8.2 regex_Parse.B8 = true := by kernel_rfl
set_option maxHeartbeats 8000000 in
set_option maxRecDepth 100000 in
theorem regex_Parse.calls (k : Nat) (a0 : ByteArray) (r1 : Int) (r2 : Int) (r3 : List (S58)) (r4 : ByteArray) (r5 : List (S26)) (r6 : Int) (r7 : Int) (w : World) (h : regex_Parse.f k a0 = some (r1, r2, r3, r4, r5, r6, r7)) :
  Calls Tryz.prog 13 #[.string a0] w fun e w' => ∃ v2_ v4_ : Value, e = .returned (.tuple #[.agg #[.int .i64 r1, .int .i64 r2, v2_, .string r4, v4_], .int .i64 r6, .int .i64 r7]) ∧ Kd.R k58 58 w' w.heap.size (fun _ => True) v2_ r3 ∧ Kd.R k26 26 w' w.heap.size (fun k_ => some k_ ≠ (v2_ : Value).ownBlock) v4_ r5 ∧ Below w.heap.size w w' := by
 have hu26 := Tryz.underlying26
 have HB := Aside0.mk (Below.refl w.heap.size w)
 have H : ((lex_Scan.f a0).bind fun bt159 => (if bt159.2.2 = 0 then ((regex_Read.f bt159.1 0).bind fun bt164 => (if bt164.2.2.2.2.2.2 = 0 then (if 0 ≤ bt164.2.2.2.2.2.1 then (if bt164.2.2.2.2.2.1 < (bt159.1.length : Int) then (regex_Parse.j0 k bt159.1 bt164.2.2.2.2.2.2 bt164.2.2.2.2.2.1 (((rd_T77 bt159.1 bt164.2.2.2.2.2.1).f0) != 0) bt164.1 bt164.2.1 bt164.2.2.1 bt164.2.2.2.1 bt164.2.2.2.2.1) else (none)) else (none)) else (regex_Parse.j0 k bt159.1 bt164.2.2.2.2.2.2 bt164.2.2.2.2.2.1 false bt164.1 bt164.2.1 bt164.2.2.1 bt164.2.2.2.1 bt164.2.2.2.2.1))) else (some (0, 0, ([] : List (S58)), (⟨#[]⟩ : ByteArray), ([] : List (S26)), bt159.2.1, bt159.2.2)))) = some (r1, r2, r3, r4, r5, r6, r7) := h
 clear h
 replace H := Option.bind_eq_some_iff.mp H
 obtain ⟨⟨t159, t160, t161⟩, A20, H⟩ := H
 replace H : (if t161 = 0 then ((regex_Read.f t159 0).bind fun bt164 => (if bt164.2.2.2.2.2.2 = 0 then (if 0 ≤ bt164.2.2.2.2.2.1 then (if bt164.2.2.2.2.2.1 < (t159.length : Int) then (regex_Parse.j0 k t159 bt164.2.2.2.2.2.2 bt164.2.2.2.2.2.1 (((rd_T77 t159 bt164.2.2.2.2.2.1).f0) != 0) bt164.1 bt164.2.1 bt164.2.2.1 bt164.2.2.2.1 bt164.2.2.2.2.1) else (none)) else (none)) else (regex_Parse.j0 k t159 bt164.2.2.2.2.2.2 bt164.2.2.2.2.2.1 false bt164.1 bt164.2.1 bt164.2.2.1 bt164.2.2.2.1 bt164.2.2.2.2.1))) else (some (0, 0, ([] : List (S58)), (⟨#[]⟩ : ByteArray), ([] : List (S26)), t160, t161))) = some (r1, r2, r3, r4, r5, r6, r7) := H
 have A2 := Aside0.mk A20
 clear A20
 by_cases c3 : t161 = 0
 ·rw [if_pos c3] at H
  have c3b0 : (t161 == 0) = true := beq_iff_eq.mpr c3
  have c3b1 : (t161 != 0) = false := bne_eq_false_iff_eq.mpr c3
  clear c3
  replace H := Option.bind_eq_some_iff.mp H
  obtain ⟨⟨t164, t165, t166, t169, t170, t173, t174⟩, A40, H⟩ := H
  replace H : (if t174 = 0 then (if 0 ≤ t173 then (if t173 < (t159.length : Int) then (regex_Parse.j0 k t159 t174 t173 (((rd_T77 t159 t173).f0) != 0) t164 t165 t166 t169 t170) else (none)) else (none)) else (regex_Parse.j0 k t159 t174 t173 false t164 t165 t166 t169 t170)) = some (r1, r2, r3, r4, r5, r6, r7) := H
  have A4 := Aside0.mk A40
  clear A40
  have HC5 := Aside0.mk H
  clear H
  go_enter Tryz.func13, Tryz.ntmps13
  go_upto_region 5 with (first | ((with_reducible refine gate_dst (N := 2) rfl ?_); refine box_event ?hg (N := 2) ?hd (cs := #[.int .i64 0, .int .i64 0, .slice none 0 0, .string (⟨#[]⟩ : ByteArray), .slice none 0 0]) (t := 26) ?hr ?_; (case hd => rfl); (case hg => rfl); (case hr => first | (go_simp; done) | (go_simp; rfl)); intro gb158 hg w6 hbox hb; have n0_ := Aside0.mk (below_step (by repeat (first | (with_reducible first | exact HB.out | apply below_alloc | apply pw_below_drewN | apply below_drew1) | exact HB.out)) hb); have n1_ := Aside0.mk (hbox); have n2_ := Aside0.mk ((by rw [hg]; exact (below_size (by repeat (first | (with_reducible first | exact HB.out | apply below_alloc | apply pw_below_drewN | apply below_drew1) | exact HB.out))) : w.heap.size ≤ gb158)); have n3_ := Aside0.mk ((by rw [hg]; exact (below_size (by repeat (first | (with_reducible first | exact HB.out | apply below_alloc | apply pw_below_drewN | apply below_drew1) | exact HB.out))) : w.heap.size ≤ gb158)); clear HB; have HB := n0_; have BK158 := n1_; have GW158 := n2_; have GE158 := n3_; clear n0_ n1_ n2_ n3_; clear hb hbox hg) | ((with_reducible refine gate_callee (f := 40) rfl ?_); refine goesL_ (some 12) rfl rfl Tryz.func40 (by kernel_rfl) rfl #[.string a0] rfl (by (try simp only [List.map_toArray, List.map_cons, List.map_nil]); first | done | rfl | (simp only [List.length_drop, List.length_take]; rfl)) ?_; (with_reducible refine (lex_Scan.calls a0 t159 t160 t161 _ A2.out).mono ?_); rintro e w7 ⟨v162, rfl, ho0, hb⟩; refine ⟨_, rfl, ?_⟩; have n0_ := Aside0.mk (Kd.R_lower ho0 (below_size (by repeat (first | (with_reducible first | exact HB.out | apply below_alloc | apply pw_below_drewN | apply below_drew1 | refine below_set ?_ GE158.out) | exact HB.out)))); have n1_ := Aside0.mk (blk_below (g := gb158) (o := .cells #[.int .i64 0, .int .i64 0, .slice none 0 0, .string (⟨#[]⟩ : ByteArray), .slice none 0 0] 26 (0, 0)) (by (with_reducible repeat (first | refine blk_drewN ?_ _ | refine blk_drew ?_ | refine blk_alloc ?_ _)); exact BK158.out) hb); have n2_ := Aside0.mk (below_step (by repeat (first | (with_reducible first | exact HB.out | apply below_alloc | apply pw_below_drewN | apply below_drew1 | refine below_set ?_ GE158.out) | exact HB.out)) hb); clear BK158; clear HB; have HO163 := n0_; have BK158 := n1_; have HB := n2_; clear n0_ n1_ n2_; (try clear hb); (try clear hb2); (try clear hk); (try clear hi); (try clear ho0); obtain ⟨Ao8, co8, eo8⟩ := Kd.R_slice HO163.out; subst eo8) | ((with_reducible refine gate_callee (f := 41) rfl ?_); refine goesL_ (some 23) rfl rfl Tryz.func41 (by kernel_rfl) rfl #[.slice Ao8 t159.length co8, .int .i64 0] rfl (by (try simp only [List.map_toArray, List.map_cons, List.map_nil]); first | done | rfl | (simp only [List.length_drop, List.length_take]; rfl)) ?_; (with_reducible refine (regex_Read.calls _ _ t159 0 t164 t165 t166 t169 t170 t173 t174 _ ?side1 ?side2 A4.out).mono ?_); (case side1 => repeat (first | exact (Kd.R_reads' HO163.out).2.2 | (with_reducible refine Kd.C_alloc ?_ _) | (with_reducible refine Kd.C_drewN ?_ _) | (with_reducible refine Kd.C_drew ?_))); (case side2 => exact (Kd.R_reads' HO163.out).2.1); rintro e w9 ⟨v167, v171, rfl, ho0, ho1, hb⟩; refine ⟨_, rfl, ?_⟩; have n0_ := Aside0.mk (Kd.R_below (by (with_reducible repeat (first | apply Kd.R_alloc | apply Kd.R_drewN | apply Kd.R_drew)); exact HO163.out) hb); have n1_ := Aside0.mk (Kd.R_lower ho0 (below_size (by repeat (first | (with_reducible first | exact HB.out | apply below_alloc | apply pw_below_drewN | apply below_drew1 | refine below_set ?_ GE158.out) | exact HB.out)))); have n2_ := Aside0.mk (Kd.R_lower (Kd.R_newB ho1 (g := gb158) (o := .cells #[.int .i64 0, .int .i64 0, .slice none 0 0, .string (⟨#[]⟩ : ByteArray), .slice none 0 0] 26 (0, 0)) (by (with_reducible repeat (first | refine blk_drewN ?_ _ | refine blk_drew ?_ | refine blk_alloc ?_ _)); exact BK158.out)) (below_size (by repeat (first | (with_reducible first | exact HB.out | apply below_alloc | apply pw_below_drewN | apply below_drew1 | refine below_set ?_ GE158.out) | exact HB.out)))); have n3_ := Aside0.mk (blk_below (g := gb158) (o := .cells #[.int .i64 0, .int .i64 0, .slice none 0 0, .string (⟨#[]⟩ : ByteArray), .slice none 0 0] 26 (0, 0)) (by (with_reducible repeat (first | refine blk_drewN ?_ _ | refine blk_drew ?_ | refine blk_alloc ?_ _)); exact BK158.out) hb); have n4_ := Aside0.mk (below_step (by repeat (first | (with_reducible first | exact HB.out | apply below_alloc | apply pw_below_drewN | apply below_drew1 | refine below_set ?_ GE158.out) | exact HB.out)) hb); clear HO163; clear BK158; clear HB; have HO163 := n0_; have HO168 := n1_; have HO172 := n2_; have BK158 := n3_; have HB := n4_; clear n0_ n1_ n2_ n3_ n4_; (try clear hb); (try clear hb2); (try clear hk); (try clear hi); (try clear ho0); (try clear ho1)) | ((with_reducible refine gate_dst (N := 8) rfl ?_); refine box_event ?hg (N := 8) ?hd (cs := #[.int .i64 0, .int .i64 0, .slice none 0 0, .string (⟨#[]⟩ : ByteArray), .slice none 0 0]) (t := 26) ?hr ?_; (case hd => rfl); (case hg => rfl); (case hr => first | (go_simp; done) | (go_simp; rfl)); intro gb175 hg w10 hbox hb; have n0_ := Aside0.mk (Kd.R_below (by (with_reducible repeat (first | apply Kd.R_alloc | apply Kd.R_drewN | apply Kd.R_drew)); exact HO163.out) hb); have n1_ := Aside0.mk (Kd.R_below (by (with_reducible repeat (first | apply Kd.R_alloc | apply Kd.R_drewN | apply Kd.R_drew)); exact HO168.out) hb); have n2_ := Aside0.mk (Kd.R_below (Kd.R_elderB (by (with_reducible repeat (first | apply Kd.R_alloc | apply Kd.R_drewN | apply Kd.R_drew)); exact HO172.out) gb175 (Nat.le_of_eq hg.symm)) hb); have n3_ := Aside0.mk (blk_below (g := gb158) (o := .cells #[.int .i64 0, .int .i64 0, .slice none 0 0, .string (⟨#[]⟩ : ByteArray), .slice none 0 0] 26 (0, 0)) (by (with_reducible repeat (first | refine blk_drewN ?_ _ | refine blk_drew ?_ | refine blk_alloc ?_ _)); exact BK158.out) hb); have n4_ := Aside0.mk (below_step (by repeat (first | (with_reducible first | exact HB.out | apply below_alloc | apply pw_below_drewN | apply below_drew1 | refine below_set ?_ GE158.out) | exact HB.out)) hb); have n5_ := Aside0.mk (hbox); have n6_ := Aside0.mk ((by rw [hg]; exact (below_size (by repeat (first | (with_reducible first | exact HB.out | apply below_alloc | apply pw_below_drewN | apply below_drew1 | refine below_set ?_ GE158.out) | exact HB.out))) : w.heap.size ≤ gb175)); have n7_ := Aside0.mk ((by rw [hg]; exact (below_size (by repeat (first | (with_reducible first | exact HB.out | apply below_alloc | apply pw_below_drewN | apply below_drew1 | refine below_set ?_ GE158.out) | exact HB.out))) : w.heap.size ≤ gb175)); have n8_ := Aside0.mk ((by rw [hg]; exact Nat.ne_of_lt (blk_lt (g := gb158) (o := .cells #[.int .i64 0, .int .i64 0, .slice none 0 0, .string (⟨#[]⟩ : ByteArray), .slice none 0 0] 26 (0, 0)) (by (with_reducible repeat (first | refine blk_drewN ?_ _ | refine blk_drew ?_ | refine blk_alloc ?_ _)); exact BK158.out)) : gb158 ≠ gb175)); have n9_ := Aside0.mk ((by rw [hg]; exact Nat.ne_of_gt (blk_lt (g := gb158) (o := .cells #[.int .i64 0, .int .i64 0, .slice none 0 0, .string (⟨#[]⟩ : ByteArray), .slice none 0 0] 26 (0, 0)) (by (with_reducible repeat (first | refine blk_drewN ?_ _ | refine blk_drew ?_ | refine blk_alloc ?_ _)); exact BK158.out)) : gb175 ≠ gb158)); clear HO163; clear HO168; clear HO172; clear BK158; clear HB; have HO163 := n0_; have HO168 := n1_; have HO172 := n2_; have BK158 := n3_; have HB := n4_; have BK175 := n5_; have GW175 := n6_; have GE175 := n7_; have NB158_175 := n8_; have NB175_158 := n9_; clear n0_ n1_ n2_ n3_ n4_ n5_ n6_ n7_ n8_ n9_; clear hb hbox hg; have hnb11 := NB175_158.out; have hnc11 := NB158_175.out; have hcz12_0 : w10.cell? ⟨gb175, 0, none⟩ = some (.int .i64 0) := (blk_cell BK175.out 0).trans rfl; have hcz12_1 : w10.cell? ⟨gb175, 1, none⟩ = some (.int .i64 0) := (blk_cell BK175.out 1).trans rfl; have hcz12_2 : w10.cell? ⟨gb175, 2, none⟩ = some (.slice none 0 0) := (blk_cell BK175.out 2).trans rfl; have hcz12_3 : w10.cell? ⟨gb175, 3, none⟩ = some (.string (⟨#[]⟩ : ByteArray)) := (blk_cell BK175.out 3).trans rfl; have hcz12_4 : w10.cell? ⟨gb175, 4, none⟩ = some (.slice none 0 0) := (blk_cell BK175.out 4).trans rfl; have hfz12_0 := blk_frozen BK175.out 0; have hfz12_1 := blk_frozen BK175.out 1; have hfz12_2 := blk_frozen BK175.out 2; have hfz12_3 := blk_frozen BK175.out 3; have hfz12_4 := blk_frozen BK175.out 4; obtain ⟨Ao13, co13, eo13⟩ := Kd.R_slice HO168.out; subst eo13; obtain ⟨Ao14, co14, eo14⟩ := Kd.R_slice HO172.out; subst eo14))
  (try simp only [Act.put, List.setIfInBounds_toArray, List.set_cons_zero, List.set_cons_succ])
  go_cut [36] (fun v36 wc => ∃ (kq : Nat) (x36_4 : Bool), v36 = .bool x36_4 ∧ Aside0 (regex_Parse.j0 kq t159 t174 t173 x36_4 t164 t165 t166 t169 t170 = some (r1, r2, r3, r4, r5, r6, r7)) ∧ Aside0 (kq ≤ k) ∧ Aside0 (Kd.R k77 77 wc w.heap.size (fun _ => True) (.slice Ao8 t159.length co8) t159) ∧ Aside0 (Kd.R k58 58 wc w.heap.size (fun _ => True) (.slice Ao13 t166.length co13) t166) ∧ Aside0 (Kd.R k26 26 wc w.heap.size (fun k_ => some k_ ≠ ((.slice Ao13 t166.length co13) : Value).ownBlock ∧ k_ ≠ gb158 ∧ k_ ≠ gb175) (.slice Ao14 t170.length co14) t170) ∧ Aside0 (wc.heap[gb158]? = some (.cells #[.int .i64 0, .int .i64 0, (.slice none 0 0), .string (⟨#[]⟩ : ByteArray), (.slice none 0 0)] 26 (0, 0))) ∧ Aside0 (wc.heap[gb175]? = some (.cells #[.int .i64 t164, .int .i64 t165, (.slice Ao13 t166.length co13), .string t169, (.slice Ao14 t170.length co14)] 26 (0, 0))) ∧ Aside0 (Below w.heap.size w wc))
  case first =>
   have H := HC5.out
   clear HC5
   by_cases c15 : t174 = 0
   ·rw [if_pos c15] at H
    have c15b0 : (t174 == 0) = true := beq_iff_eq.mpr c15
    have c15b1 : (t174 != 0) = false := bne_eq_false_iff_eq.mpr c15
    clear c15
    (first | rw [c15b0] | (simp only [i64_w, i32_w]; rw [c15b0]) | skip)
    by_cases c16 : 0 ≤ t173
    ·rw [if_pos c16] at H
     have c16b0 : decide (0 ≤ t173) = true := decide_eq_true c16
     clear c16
     by_cases c17 : t173 < (t159.length : Int)
     ·rw [if_pos c17] at H
      have c17b0 : decide (t173 < (t159.length : Int)) = true := decide_eq_true c17
      clear c17
      have H' := Aside0.mk H
      clear H
      have p176 : 0 ≤ (t173 : Int) := of_decide_eq_true (by first | (with_reducible assumption) | assumption)
      have q176 : t173 < (t159.length : Int) := of_decide_eq_true (by first | (with_reducible assumption) | assumption)
      obtain ⟨ad176, e176, hx176_0, hx176_1, hx176_2, hx176_3⟩ := at_T77 (Kd.R_reads' HO163.out).2.2 t173 p176 q176
      cases e176
      have hn176_0 : ad176.block ≠ gb175 := Kd.own_blk (Kd.R_ne HO163.out BK175.out (by decide))
      have hn176_1 : ad176.block ≠ gb175 := Kd.own_blk (Kd.R_ne HO163.out BK175.out (by decide))
      have hn176_2 : ad176.block ≠ gb175 := Kd.own_blk (Kd.R_ne HO163.out BK175.out (by decide))
      have hn176_3 : ad176.block ≠ gb175 := Kd.own_blk (Kd.R_ne HO163.out BK175.out (by decide))
      have hn176_4 : ad176.block ≠ gb175 := Kd.own_blk (Kd.R_ne HO163.out BK175.out (by decide))
      replace hx176_0 := (cell_far (p := ⟨gb175, 0, none⟩) (by first | (rw [add_block]; exact hn176_0) | (show (Addr.add _ _).block ≠ _; rw [add_block]; exact hn176_0) | exact hn176_0) (.int .i64 t164)).trans hx176_0
      replace hx176_1 := (cell_far (p := ⟨gb175, 0, none⟩) (by first | (rw [add_block]; exact hn176_0) | (show (Addr.add _ _).block ≠ _; rw [add_block]; exact hn176_0) | exact hn176_0) (.int .i64 t164)).trans hx176_1
      replace hx176_2 := (cell_far (p := ⟨gb175, 0, none⟩) (by first | (rw [add_block]; exact hn176_0) | (show (Addr.add _ _).block ≠ _; rw [add_block]; exact hn176_0) | exact hn176_0) (.int .i64 t164)).trans hx176_2
      replace hx176_3 := (cell_far (p := ⟨gb175, 0, none⟩) (by first | (rw [add_block]; exact hn176_0) | (show (Addr.add _ _).block ≠ _; rw [add_block]; exact hn176_0) | exact hn176_0) (.int .i64 t164)).trans hx176_3
      replace hx176_0 := (cell_far (p := ⟨gb175, 1, none⟩) (by first | (rw [add_block]; exact hn176_1) | (show (Addr.add _ _).block ≠ _; rw [add_block]; exact hn176_1) | exact hn176_1) (.int .i64 t165)).trans hx176_0
      replace hx176_1 := (cell_far (p := ⟨gb175, 1, none⟩) (by first | (rw [add_block]; exact hn176_1) | (show (Addr.add _ _).block ≠ _; rw [add_block]; exact hn176_1) | exact hn176_1) (.int .i64 t165)).trans hx176_1
      replace hx176_2 := (cell_far (p := ⟨gb175, 1, none⟩) (by first | (rw [add_block]; exact hn176_1) | (show (Addr.add _ _).block ≠ _; rw [add_block]; exact hn176_1) | exact hn176_1) (.int .i64 t165)).trans hx176_2
      replace hx176_3 := (cell_far (p := ⟨gb175, 1, none⟩) (by first | (rw [add_block]; exact hn176_1) | (show (Addr.add _ _).block ≠ _; rw [add_block]; exact hn176_1) | exact hn176_1) (.int .i64 t165)).trans hx176_3
      replace hx176_0 := (cell_far (p := ⟨gb175, 2, none⟩) (by first | (rw [add_block]; exact hn176_2) | (show (Addr.add _ _).block ≠ _; rw [add_block]; exact hn176_2) | exact hn176_2) (.slice Ao13 t166.length co13)).trans hx176_0
      replace hx176_1 := (cell_far (p := ⟨gb175, 2, none⟩) (by first | (rw [add_block]; exact hn176_2) | (show (Addr.add _ _).block ≠ _; rw [add_block]; exact hn176_2) | exact hn176_2) (.slice Ao13 t166.length co13)).trans hx176_1
      replace hx176_2 := (cell_far (p := ⟨gb175, 2, none⟩) (by first | (rw [add_block]; exact hn176_2) | (show (Addr.add _ _).block ≠ _; rw [add_block]; exact hn176_2) | exact hn176_2) (.slice Ao13 t166.length co13)).trans hx176_2
      replace hx176_3 := (cell_far (p := ⟨gb175, 2, none⟩) (by first | (rw [add_block]; exact hn176_2) | (show (Addr.add _ _).block ≠ _; rw [add_block]; exact hn176_2) | exact hn176_2) (.slice Ao13 t166.length co13)).trans hx176_3
      replace hx176_0 := (cell_far (p := ⟨gb175, 3, none⟩) (by first | (rw [add_block]; exact hn176_3) | (show (Addr.add _ _).block ≠ _; rw [add_block]; exact hn176_3) | exact hn176_3) (.string t169)).trans hx176_0
      replace hx176_1 := (cell_far (p := ⟨gb175, 3, none⟩) (by first | (rw [add_block]; exact hn176_3) | (show (Addr.add _ _).block ≠ _; rw [add_block]; exact hn176_3) | exact hn176_3) (.string t169)).trans hx176_1
      replace hx176_2 := (cell_far (p := ⟨gb175, 3, none⟩) (by first | (rw [add_block]; exact hn176_3) | (show (Addr.add _ _).block ≠ _; rw [add_block]; exact hn176_3) | exact hn176_3) (.string t169)).trans hx176_2
      replace hx176_3 := (cell_far (p := ⟨gb175, 3, none⟩) (by first | (rw [add_block]; exact hn176_3) | (show (Addr.add _ _).block ≠ _; rw [add_block]; exact hn176_3) | exact hn176_3) (.string t169)).trans hx176_3
      replace hx176_0 := (cell_far (p := ⟨gb175, 4, none⟩) (by first | (rw [add_block]; exact hn176_4) | (show (Addr.add _ _).block ≠ _; rw [add_block]; exact hn176_4) | exact hn176_4) (.slice Ao14 t170.length co14)).trans hx176_0
      replace hx176_1 := (cell_far (p := ⟨gb175, 4, none⟩) (by first | (rw [add_block]; exact hn176_4) | (show (Addr.add _ _).block ≠ _; rw [add_block]; exact hn176_4) | exact hn176_4) (.slice Ao14 t170.length co14)).trans hx176_1
      replace hx176_2 := (cell_far (p := ⟨gb175, 4, none⟩) (by first | (rw [add_block]; exact hn176_4) | (show (Addr.add _ _).block ≠ _; rw [add_block]; exact hn176_4) | exact hn176_4) (.slice Ao14 t170.length co14)).trans hx176_2
      replace hx176_3 := (cell_far (p := ⟨gb175, 4, none⟩) (by first | (rw [add_block]; exact hn176_4) | (show (Addr.add _ _).block ≠ _; rw [add_block]; exact hn176_4) | exact hn176_4) (.slice Ao14 t170.length co14)).trans hx176_3
      clear hn176_0
      clear hn176_1
      clear hn176_2
      clear hn176_3
      clear hn176_4
      replace p176 := eq_true p176
      replace q176 := eq_true q176
      go_wp2
      go_meet
      case rel => exact ⟨_, ((((rd_T77 t159 t173).f0) != 0)), (by first | rfl | (simp; done) | (simp [*]; done)), H', ⟨by first | omega | exact Nat.le_refl _⟩, ⟨by (with_reducible repeat (first | apply Kd.R_alloc | apply Kd.R_drewN | apply Kd.R_drew)); exact Kd.R_mono (Kd.R_far (p := ⟨gb175, 4, none⟩) (Kd.R_far (p := ⟨gb175, 3, none⟩) (Kd.R_far (p := ⟨gb175, 2, none⟩) (Kd.R_far (p := ⟨gb175, 1, none⟩) (Kd.R_far (p := ⟨gb175, 0, none⟩) (Kd.R_types HO163.out BK175.out (by decide)) (fun _ hk => hk.2) (.int .i64 t164)) (fun _ hk => hk.2) (.int .i64 t165)) (fun _ hk => hk.2) (.slice Ao13 t166.length co13)) (fun _ hk => hk.2) (.string t169)) (fun _ hk => hk.2) (.slice Ao14 t170.length co14)) (fun _ hk => trivial)⟩, ⟨by (with_reducible repeat (first | apply Kd.R_alloc | apply Kd.R_drewN | apply Kd.R_drew)); exact Kd.R_mono (Kd.R_far (p := ⟨gb175, 4, none⟩) (Kd.R_far (p := ⟨gb175, 3, none⟩) (Kd.R_far (p := ⟨gb175, 2, none⟩) (Kd.R_far (p := ⟨gb175, 1, none⟩) (Kd.R_far (p := ⟨gb175, 0, none⟩) (Kd.R_types HO168.out BK175.out (by decide)) (fun _ hk => hk.2) (.int .i64 t164)) (fun _ hk => hk.2) (.int .i64 t165)) (fun _ hk => hk.2) (.slice Ao13 t166.length co13)) (fun _ hk => hk.2) (.string t169)) (fun _ hk => hk.2) (.slice Ao14 t170.length co14)) (fun _ hk => trivial)⟩, ⟨by (with_reducible repeat (first | apply Kd.R_alloc | apply Kd.R_drewN | apply Kd.R_drew)); exact Kd.R_mono (Kd.R_far (p := ⟨gb175, 4, none⟩) (Kd.R_far (p := ⟨gb175, 3, none⟩) (Kd.R_far (p := ⟨gb175, 2, none⟩) (Kd.R_far (p := ⟨gb175, 1, none⟩) (Kd.R_far (p := ⟨gb175, 0, none⟩) (Kd.R_mono HO172.out (fun k_ hk => (⟨hk, hk.2⟩ : _ ∧ k_ ≠ gb175))) (fun _ hk => hk.2) (.int .i64 t164)) (fun _ hk => hk.2) (.int .i64 t165)) (fun _ hk => hk.2) (.slice Ao13 t166.length co13)) (fun _ hk => hk.2) (.string t169)) (fun _ hk => hk.2) (.slice Ao14 t170.length co14)) (fun _ hk => ⟨hk.1.1.1, ⟨hk.1.1.2, hk.1.2⟩⟩)⟩, ⟨by (with_reducible repeat (first | refine blk_drewN ?_ _ | refine blk_drew ?_ | refine blk_alloc ?_ _)); refine blk_far ?_ NB158_175.out _; (with_reducible repeat (first | refine blk_drewN ?_ _ | refine blk_drew ?_ | refine blk_alloc ?_ _)); refine blk_far ?_ NB158_175.out _; (with_reducible repeat (first | refine blk_drewN ?_ _ | refine blk_drew ?_ | refine blk_alloc ?_ _)); refine blk_far ?_ NB158_175.out _; (with_reducible repeat (first | refine blk_drewN ?_ _ | refine blk_drew ?_ | refine blk_alloc ?_ _)); refine blk_far ?_ NB158_175.out _; (with_reducible repeat (first | refine blk_drewN ?_ _ | refine blk_drew ?_ | refine blk_alloc ?_ _)); refine blk_far ?_ NB158_175.out _; (with_reducible repeat (first | refine blk_drewN ?_ _ | refine blk_drew ?_ | refine blk_alloc ?_ _)); exact BK158.out⟩, ⟨by (with_reducible repeat (first | refine blk_drewN ?_ _ | refine blk_drew ?_ | refine blk_alloc ?_ _)); refine blk_put (cs := #[.int .i64 t164, .int .i64 t165, .slice Ao13 t166.length co13, .string t169, .slice none 0 0]) ?_ 4 _ rfl; (with_reducible repeat (first | refine blk_drewN ?_ _ | refine blk_drew ?_ | refine blk_alloc ?_ _)); refine blk_put (cs := #[.int .i64 t164, .int .i64 t165, .slice Ao13 t166.length co13, .string (⟨#[]⟩ : ByteArray), .slice none 0 0]) ?_ 3 _ rfl; (with_reducible repeat (first | refine blk_drewN ?_ _ | refine blk_drew ?_ | refine blk_alloc ?_ _)); refine blk_put (cs := #[.int .i64 t164, .int .i64 t165, .slice none 0 0, .string (⟨#[]⟩ : ByteArray), .slice none 0 0]) ?_ 2 _ rfl; (with_reducible repeat (first | refine blk_drewN ?_ _ | refine blk_drew ?_ | refine blk_alloc ?_ _)); refine blk_put (cs := #[.int .i64 t164, .int .i64 0, .slice none 0 0, .string (⟨#[]⟩ : ByteArray), .slice none 0 0]) ?_ 1 _ rfl; (with_reducible repeat (first | refine blk_drewN ?_ _ | refine blk_drew ?_ | refine blk_alloc ?_ _)); refine blk_put (cs := #[.int .i64 0, .int .i64 0, .slice none 0 0, .string (⟨#[]⟩ : ByteArray), .slice none 0 0]) ?_ 0 _ rfl; (with_reducible repeat (first | refine blk_drewN ?_ _ | refine blk_drew ?_ | refine blk_alloc ?_ _)); exact BK175.out⟩, ⟨by repeat (first | (with_reducible first | exact HB.out | apply below_alloc | apply pw_below_drewN | apply below_drew1 | refine below_set ?_ GE158.out | refine below_set ?_ GE175.out) | exact HB.out)⟩⟩
     ·rw [if_neg c17] at H
      exact absurd H (by simp)
    ·rw [if_neg c16] at H
     exact absurd H (by simp)
   ·rw [if_neg c15] at H
    have c15b0 : (t174 == 0) = false := beq_eq_false_iff_ne.mpr c15
    have c15b1 : (t174 != 0) = true := bne_iff_ne.mpr c15
    (first | rw [c15b0] | (simp only [i64_w, i32_w]; rw [c15b0]) | skip)
    have H' := Aside0.mk H
    clear H
    go_wp2
    go_meet
    case rel => exact ⟨_, (false), (by first | rfl | (simp; done) | (simp [*]; done)), H', ⟨by first | omega | exact Nat.le_refl _⟩, ⟨by (with_reducible repeat (first | apply Kd.R_alloc | apply Kd.R_drewN | apply Kd.R_drew)); exact Kd.R_mono (Kd.R_far (p := ⟨gb175, 4, none⟩) (Kd.R_far (p := ⟨gb175, 3, none⟩) (Kd.R_far (p := ⟨gb175, 2, none⟩) (Kd.R_far (p := ⟨gb175, 1, none⟩) (Kd.R_far (p := ⟨gb175, 0, none⟩) (Kd.R_types HO163.out BK175.out (by decide)) (fun _ hk => hk.2) (.int .i64 t164)) (fun _ hk => hk.2) (.int .i64 t165)) (fun _ hk => hk.2) (.slice Ao13 t166.length co13)) (fun _ hk => hk.2) (.string t169)) (fun _ hk => hk.2) (.slice Ao14 t170.length co14)) (fun _ hk => trivial)⟩, ⟨by (with_reducible repeat (first | apply Kd.R_alloc | apply Kd.R_drewN | apply Kd.R_drew)); exact Kd.R_mono (Kd.R_far (p := ⟨gb175, 4, none⟩) (Kd.R_far (p := ⟨gb175, 3, none⟩) (Kd.R_far (p := ⟨gb175, 2, none⟩) (Kd.R_far (p := ⟨gb175, 1, none⟩) (Kd.R_far (p := ⟨gb175, 0, none⟩) (Kd.R_types HO168.out BK175.out (by decide)) (fun _ hk => hk.2) (.int .i64 t164)) (fun _ hk => hk.2) (.int .i64 t165)) (fun _ hk => hk.2) (.slice Ao13 t166.length co13)) (fun _ hk => hk.2) (.string t169)) (fun _ hk => hk.2) (.slice Ao14 t170.length co14)) (fun _ hk => trivial)⟩, ⟨by (with_reducible repeat (first | apply Kd.R_alloc | apply Kd.R_drewN | apply Kd.R_drew)); exact Kd.R_mono (Kd.R_far (p := ⟨gb175, 4, none⟩) (Kd.R_far (p := ⟨gb175, 3, none⟩) (Kd.R_far (p := ⟨gb175, 2, none⟩) (Kd.R_far (p := ⟨gb175, 1, none⟩) (Kd.R_far (p := ⟨gb175, 0, none⟩) (Kd.R_mono HO172.out (fun k_ hk => (⟨hk, hk.2⟩ : _ ∧ k_ ≠ gb175))) (fun _ hk => hk.2) (.int .i64 t164)) (fun _ hk => hk.2) (.int .i64 t165)) (fun _ hk => hk.2) (.slice Ao13 t166.length co13)) (fun _ hk => hk.2) (.string t169)) (fun _ hk => hk.2) (.slice Ao14 t170.length co14)) (fun _ hk => ⟨hk.1.1.1, ⟨hk.1.1.2, hk.1.2⟩⟩)⟩, ⟨by (with_reducible repeat (first | refine blk_drewN ?_ _ | refine blk_drew ?_ | refine blk_alloc ?_ _)); refine blk_far ?_ NB158_175.out _; (with_reducible repeat (first | refine blk_drewN ?_ _ | refine blk_drew ?_ | refine blk_alloc ?_ _)); refine blk_far ?_ NB158_175.out _; (with_reducible repeat (first | refine blk_drewN ?_ _ | refine blk_drew ?_ | refine blk_alloc ?_ _)); refine blk_far ?_ NB158_175.out _; (with_reducible repeat (first | refine blk_drewN ?_ _ | refine blk_drew ?_ | refine blk_alloc ?_ _)); refine blk_far ?_ NB158_175.out _; (with_reducible repeat (first | refine blk_drewN ?_ _ | refine blk_drew ?_ | refine blk_alloc ?_ _)); refine blk_far ?_ NB158_175.out _; (with_reducible repeat (first | refine blk_drewN ?_ _ | refine blk_drew ?_ | refine blk_alloc ?_ _)); exact BK158.out⟩, ⟨by (with_reducible repeat (first | refine blk_drewN ?_ _ | refine blk_drew ?_ | refine blk_alloc ?_ _)); refine blk_put (cs := #[.int .i64 t164, .int .i64 t165, .slice Ao13 t166.length co13, .string t169, .slice none 0 0]) ?_ 4 _ rfl; (with_reducible repeat (first | refine blk_drewN ?_ _ | refine blk_drew ?_ | refine blk_alloc ?_ _)); refine blk_put (cs := #[.int .i64 t164, .int .i64 t165, .slice Ao13 t166.length co13, .string (⟨#[]⟩ : ByteArray), .slice none 0 0]) ?_ 3 _ rfl; (with_reducible repeat (first | refine blk_drewN ?_ _ | refine blk_drew ?_ | refine blk_alloc ?_ _)); refine blk_put (cs := #[.int .i64 t164, .int .i64 t165, .slice none 0 0, .string (⟨#[]⟩ : ByteArray), .slice none 0 0]) ?_ 2 _ rfl; (with_reducible repeat (first | refine blk_drewN ?_ _ | refine blk_drew ?_ | refine blk_alloc ?_ _)); refine blk_put (cs := #[.int .i64 t164, .int .i64 0, .slice none 0 0, .string (⟨#[]⟩ : ByteArray), .slice none 0 0]) ?_ 1 _ rfl; (with_reducible repeat (first | refine blk_drewN ?_ _ | refine blk_drew ?_ | refine blk_alloc ?_ _)); refine blk_put (cs := #[.int .i64 0, .int .i64 0, .slice none 0 0, .string (⟨#[]⟩ : ByteArray), .slice none 0 0]) ?_ 0 _ rfl; (with_reducible repeat (first | refine blk_drewN ?_ _ | refine blk_drew ?_ | refine blk_alloc ?_ _)); exact BK175.out⟩, ⟨by repeat (first | (with_reducible first | exact HB.out | apply below_alloc | apply pw_below_drewN | apply below_drew1 | refine below_set ?_ GE158.out | refine below_set ?_ GE175.out) | exact HB.out)⟩⟩
  case rest =>
   clear HC5
   try clear c1
   try clear p1
   try clear q1
   try clear hx1
   try clear p2
   try clear c3
   try clear c3b0
   try clear c3b1
   try clear c4
   try clear c11
   try clear c13
   try clear c15
   try clear c15b0
   try clear c15b1
   try clear c16
   try clear c16b0
   try clear c17
   try clear c17b0
   try clear p17
   try clear q17
   try clear hx17
   try clear hcz12_0
   try clear hcz12_1
   try clear hcz12_2
   try clear hcz12_3
   try clear hcz12_4
   try clear hfz12_0
   try clear hfz12_1
   try clear hfz12_2
   try clear hfz12_3
   try clear hfz12_4
   try clear hx176_0
   try clear hx176_1
   try clear hx176_2
   try clear hx176_3
   try clear p176
   try clear q176
   obtain ⟨kq, x36_4, rfl, HA, HJ4, HO_5, HO_176002, HO_176004, BK158, BK175, HB⟩ := hcut
   cases kq with
   | zero => exact absurd HA.out (by simp [regex_Parse.j0])
   | succ kj4 =>
    have H := HA.out
    clear HA
    simp only [regex_Parse.j0] at H
    by_cases c18 : x36_4 = true
    ·subst c18
     have H1 : (if 70 = 0 then (some (t164, t165, t166, t169, t170, 0, 0)) else (if 0 ≤ (mn t173 (wrap64 ((t159.length : Int) - 1))) then (if (mn t173 (wrap64 ((t159.length : Int) - 1))) < (t159.length : Int) then (some (0, 0, ([] : List (S58)), (⟨#[]⟩ : ByteArray), ([] : List (S26)), (rd_T77 t159 (mn t173 (wrap64 ((t159.length : Int) - 1)))).f1, 70)) else (none)) else (none))) = some (r1, r2, r3, r4, r5, r6, r7) := by rw [if_pos rfl] at H; exact H
     clear H
     have H := H1
     clear H1
     by_cases c19 : 70 = 0
     ·exact absurd c19 (by decide)
     ·rw [if_neg c19] at H
      have c19b0 : (70 == 0) = false := beq_eq_false_iff_ne.mpr c19
      have c19b1 : (70 != 0) = true := bne_iff_ne.mpr c19
      obtain ⟨ji23, hji23⟩ : ∃ j_ : Int, (mn t173 (wrap64 ((t159.length : Int) - 1))) = j_ := ⟨_, rfl⟩
      replace H : (if 0 ≤ (ji23) then (if (ji23) < (t159.length : Int) then (some (0, 0, ([] : List (S58)), (⟨#[]⟩ : ByteArray), ([] : List (S26)), (rd_T77 t159 (ji23)).f1, 70)) else (none)) else (none)) = some (r1, r2, r3, r4, r5, r6, r7) := by first | (rw [hji23] at H; exact H) | (simp only [hji23] at H ⊢; exact H)
      have hji23_ : (if (wrap64 ((t159.length : Int) - 1)) < t173 then (wrap64 ((t159.length : Int) - 1)) else t173) = ji23 := hji23
      by_cases c24 : 0 ≤ (ji23)
      ·rw [if_pos c24] at H
       have c24b0 : decide (0 ≤ (ji23)) = true := decide_eq_true c24
       clear c24
       by_cases c25 : (ji23) < (t159.length : Int)
       ·rw [if_pos c25] at H
        have c25b0 : decide ((ji23) < (t159.length : Int)) = true := decide_eq_true c25
        clear c25
        simp only [Option.some.injEq, Prod.mk.injEq] at H
        obtain ⟨rfl, rfl, rfl, rfl, rfl, rfl, rfl⟩ := H
        try go_wp2
        have n0_ := Aside0.mk (Kd.R_drew HO_5.out)
        have n1_ := Aside0.mk (Kd.R_drew HO_176002.out)
        have n2_ := Aside0.mk (Kd.R_drew HO_176004.out)
        have n3_ := Aside0.mk (blk_drew BK158.out)
        have n4_ := Aside0.mk (blk_drew BK175.out)
        have n5_ := Aside0.mk (below_drew1 HB.out)
        clear HO_5
        clear HO_176002
        clear HO_176004
        clear BK158
        clear BK175
        clear HB
        have HO_5 := n0_
        have HO_176002 := n1_
        have HO_176004 := n2_
        have BK158 := n3_
        have BK175 := n4_
        have HB := n5_
        clear n0_ n1_ n2_ n3_ n4_ n5_
        have p177 : 0 ≤ ((ji23) : Int) := of_decide_eq_true (by first | (with_reducible assumption) | assumption)
        have q177 : (ji23) < (t159.length : Int) := of_decide_eq_true (by first | (with_reducible assumption) | assumption)
        obtain ⟨ad177, e177, hx177_0, hx177_1, hx177_2, hx177_3⟩ := at_T77 (Kd.R_reads' HO_5.out).2.2 (ji23) p177 q177
        cases e177
        replace p177 := eq_true p177
        replace q177 := eq_true q177
        refine start_ (n := 14) (S := fun w' => w'.cell? (ad177.add (((ji23)).toNat * 4)) = some (.int .i64 ((rd_T77 t159 (ji23)).f0)) ∧ w'.cell? ⟨(ad177.add (((ji23)).toNat * 4)).block, (ad177.add (((ji23)).toNat * 4)).off + 1, none⟩ = some (.int .i64 ((rd_T77 t159 (ji23)).f1)) ∧ w'.cell? ⟨(ad177.add (((ji23)).toNat * 4)).block, (ad177.add (((ji23)).toNat * 4)).off + 2, none⟩ = some (.string ((rd_T77 t159 (ji23)).f2)) ∧ w'.cell? ⟨(ad177.add (((ji23)).toNat * 4)).block, (ad177.add (((ji23)).toNat * 4)).off + 3, none⟩ = some (.int .i32 ((rd_T77 t159 (ji23)).f3))) (ds := []) #[false, false, false, false, false, false, false, false, false, false, false, false, false, false] (by kernel_rfl) rfl rfl ⟨hx177_0, hx177_1, hx177_2, hx177_3⟩ (fun hHeld => ?_); refine with_tabW regex_Parse.tab8 regex_Parse.bits8 (fun HT_ HW_ => ?_)
        generalize wc.drew = w26 at HO_5 HO_176002 HO_176004 BK158 BK175 HB hx177_0 hx177_1 hx177_2 hx177_3 hHeld ⊢
        refine pure_ (i := 0) (N := some 39) (v := ?_) (a' := ?_) #[true, false, false, false, false, false, false, false, false, false, false, false, false, false] rfl rfl (any_of HT_.out (by kernel_rfl)) (fun _ _ _ h => h) (Or.inl ⟨by rfl, ?_⟩) ?_ ?_
        rotate_left
        ·intro w'
         go_simp
         with_reducible rfl
        rotate_left
        ·simp only [Act.put, List.setIfInBounds_toArray, List.set_cons_zero, List.set_cons_succ, i64_w, i32_w]
         rfl
        refine pure_ (i := 1) (N := some 40) (v := ?_) (a' := ?_) #[true, true, false, false, false, false, false, false, false, false, false, false, false, false] rfl rfl (any_of HT_.out (by kernel_rfl)) (fun _ _ _ h => h) (Or.inl ⟨by rfl, ?_⟩) ?_ ?_
        rotate_left
        ·intro w'
         go_simp
         with_reducible rfl
        rotate_left
        ·simp only [Act.put, List.setIfInBounds_toArray, List.set_cons_zero, List.set_cons_succ, i64_w, i32_w]
         rfl
        refine pure_ (i := 2) (N := some 41) (v := ?_) (a' := ?_) #[true, true, true, false, false, false, false, false, false, false, false, false, false, false] rfl rfl (any_of HT_.out (by kernel_rfl)) (fun _ _ _ h => h) (Or.inl ⟨by rfl, ?_⟩) ?_ ?_
        rotate_left
        ·intro w'
         go_simp
         with_reducible rfl
        rotate_left
        ·simp only [Act.put, List.setIfInBounds_toArray, List.set_cons_zero, List.set_cons_succ, i64_w, i32_w]
         rfl
        refine pure_ (i := 3) (N := some 42) (v := ?_) (a' := ?_) #[true, true, true, true, false, false, false, false, false, false, false, false, false, false] rfl rfl (any_of HT_.out (by kernel_rfl)) (fun _ _ _ h => h) (Or.inl ⟨by rfl, ?_⟩) ?_ ?_
        rotate_left
        ·intro w'
         go_simp
         with_reducible rfl
        rotate_left
        ·simp only [Act.put, List.setIfInBounds_toArray, List.set_cons_zero, List.set_cons_succ, i64_w, i32_w]
         rfl
        refine pure_ (i := 4) (N := some 43) (v := ?_) (a' := ?_) #[true, true, true, true, true, false, false, false, false, false, false, false, false, false] rfl rfl (any_of HT_.out (by kernel_rfl)) (fun _ _ _ h => h) (Or.inl ⟨by rfl, ?_⟩) ?_ ?_
        rotate_left
        ·intro w'
         go_simp
         with_reducible rfl
        rotate_left
        ·simp only [Act.put, List.setIfInBounds_toArray, List.set_cons_zero, List.set_cons_succ, i64_w, i32_w]
         rfl
        refine pure_ (i := 5) (N := some 44) (v := ?_) (a' := ?_) #[true, true, true, true, true, true, false, false, false, false, false, false, false, false] rfl rfl (any_of HT_.out (by kernel_rfl)) (fun _ _ _ h => h) (Or.inl ⟨by rfl, ?_⟩) ?_ ?_
        rotate_left
        ·intro w'
         go_simp
         with_reducible rfl
        rotate_left
        ·simp only [Act.put, List.setIfInBounds_toArray, List.set_cons_zero, List.set_cons_succ, i64_w, i32_w]
         rfl
        refine pure_ (i := 6) (N := some 45) (v := ?_) (a' := ?_) #[true, true, true, true, true, true, true, false, false, false, false, false, false, false] rfl rfl (any_of HT_.out (by kernel_rfl)) (fun _ _ _ h => h) (Or.inl ⟨by rfl, ?_⟩) ?_ ?_
        rotate_left
        ·intro w'
         go_simp
         with_reducible rfl
        rotate_left
        ·simp only [Act.put, List.setIfInBounds_toArray, List.set_cons_zero, List.set_cons_succ, i64_w, i32_w]
         rfl
        refine pure_ (i := 7) (N := some 46) (v := ?_) (a' := ?_) #[true, true, true, true, true, true, true, true, false, false, false, false, false, false] rfl rfl (any_of HT_.out (by kernel_rfl)) (fun _ _ _ h => h) (Or.inl ⟨by rfl, ?_⟩) ?_ ?_
        rotate_left
        ·intro w'
         go_simp
         with_reducible rfl
        rotate_left
        ·simp only [Act.put, List.setIfInBounds_toArray, List.set_cons_zero, List.set_cons_succ, i64_w, i32_w]
         rfl
        refine pure_ (i := 8) (N := some 47) (v := ?_) (a' := ?_) #[true, true, true, true, true, true, true, true, true, false, false, false, false, false] rfl rfl (any_of HT_.out (by kernel_rfl)) (fun _ _ _ h => h) (Or.inl ⟨by rfl, ?_⟩) ?_ ?_
        rotate_left
        ·intro w'
         go_simp
         with_reducible rfl
        rotate_left
        ·simp only [Act.put, List.setIfInBounds_toArray, List.set_cons_zero, List.set_cons_succ, i64_w, i32_w]
         rfl
        refine pure_ (i := 10) (N := some 49) (v := ?_) (a' := ?_) #[true, true, true, true, true, true, true, true, true, false, true, false, false, false] rfl rfl (any_of HT_.out (by kernel_rfl)) (fun _ _ _ h => h) (Or.inl ⟨by rfl, ?_⟩) ?_ ?_
        rotate_left
        ·intro w'
         go_simp
         with_reducible rfl
        rotate_left
        ·simp only [Act.put, List.setIfInBounds_toArray, List.set_cons_zero, List.set_cons_succ, i64_w, i32_w]
         rfl
        refine take_ (i := 9) (N := some 48) (v := ?_) (a' := ?_) #[true, true, true, true, true, true, true, true, true, true, true, false, false, false] rfl rfl (take_ofW HT_.out HW_.out (by kernel_rfl)) (fun _ _ _ h => h) (Or.inl ⟨by rfl, ?_⟩) hHeld ?_ ?_
        rotate_left
        ·rintro w' ⟨s0, s1, s2, s3⟩
         go_simp
         with_reducible rfl
        rotate_left
        ·simp only [Act.put, List.setIfInBounds_toArray, List.set_cons_zero, List.set_cons_succ, i64_w, i32_w]
         rfl
        refine one_ (i := 11) (N := none) #[true, true, true, true, true, true, true, true, true, true, true, true, false, false] rfl rfl (one_of HT_.out (by kernel_rfl)) (by decide) (fun K hK => ?_)
        have hs27 : w26.cell? ⟨gb158, 0, none⟩ = some (.int .i64 0) := (blk_cell BK158.out 0).trans rfl
        have hfs27 := blk_frozen BK158.out 0
        have hns27_1 := NB175_158.out
        have hms27_1 := NB158_175.out
        have hs28 : w26.cell? ⟨gb158, 1, none⟩ = some (.int .i64 0) := (blk_cell BK158.out 1).trans rfl
        have hfs28 := blk_frozen BK158.out 1
        have hns28_1 := NB175_158.out
        have hms28_1 := NB158_175.out
        have hs29 : w26.cell? ⟨gb158, 2, none⟩ = some (.slice none 0 0) := (blk_cell BK158.out 2).trans rfl
        have hfs29 := blk_frozen BK158.out 2
        have hns29_1 := NB175_158.out
        have hms29_1 := NB158_175.out
        have hs30 : w26.cell? ⟨gb158, 3, none⟩ = some (.string (⟨#[]⟩ : ByteArray)) := (blk_cell BK158.out 3).trans rfl
        have hfs30 := blk_frozen BK158.out 3
        have hns30_1 := NB175_158.out
        have hms30_1 := NB158_175.out
        have hs31 : w26.cell? ⟨gb158, 4, none⟩ = some (.slice none 0 0) := (blk_cell BK158.out 4).trans rfl
        have hfs31 := blk_frozen BK158.out 4
        have hns31_1 := NB175_158.out
        have hms31_1 := NB158_175.out
        refine skip_ (w1 := ?_) (by rfl) rfl ?_ ?_
        rotate_left
        ·go_simp
         rfl
        refine hK.out _ _ ⟨((cell_far (p := ⟨gb158, _, none⟩) (by first | exact Kd.own_blk (Kd.R_ne HO_5.out BK158.out (by decide)) | (rw [add_block]; exact Kd.own_blk (Kd.R_ne HO_5.out BK158.out (by decide))) | (show (Addr.add _ _).block ≠ _; rw [add_block]; exact Kd.own_blk (Kd.R_ne HO_5.out BK158.out (by decide))) | (dsimp only; exact Kd.own_blk (Kd.R_ne HO_5.out BK158.out (by decide)))) _).trans (((cell_far (p := ⟨gb158, _, none⟩) (by first | exact Kd.own_blk (Kd.R_ne HO_5.out BK158.out (by decide)) | (rw [add_block]; exact Kd.own_blk (Kd.R_ne HO_5.out BK158.out (by decide))) | (show (Addr.add _ _).block ≠ _; rw [add_block]; exact Kd.own_blk (Kd.R_ne HO_5.out BK158.out (by decide))) | (dsimp only; exact Kd.own_blk (Kd.R_ne HO_5.out BK158.out (by decide)))) _).trans (((cell_far (p := ⟨gb158, _, none⟩) (by first | exact Kd.own_blk (Kd.R_ne HO_5.out BK158.out (by decide)) | (rw [add_block]; exact Kd.own_blk (Kd.R_ne HO_5.out BK158.out (by decide))) | (show (Addr.add _ _).block ≠ _; rw [add_block]; exact Kd.own_blk (Kd.R_ne HO_5.out BK158.out (by decide))) | (dsimp only; exact Kd.own_blk (Kd.R_ne HO_5.out BK158.out (by decide)))) _).trans (((cell_far (p := ⟨gb158, _, none⟩) (by first | exact Kd.own_blk (Kd.R_ne HO_5.out BK158.out (by decide)) | (rw [add_block]; exact Kd.own_blk (Kd.R_ne HO_5.out BK158.out (by decide))) | (show (Addr.add _ _).block ≠ _; rw [add_block]; exact Kd.own_blk (Kd.R_ne HO_5.out BK158.out (by decide))) | (dsimp only; exact Kd.own_blk (Kd.R_ne HO_5.out BK158.out (by decide)))) _).trans (((cell_far (p := ⟨gb158, _, none⟩) (by first | exact Kd.own_blk (Kd.R_ne HO_5.out BK158.out (by decide)) | (rw [add_block]; exact Kd.own_blk (Kd.R_ne HO_5.out BK158.out (by decide))) | (show (Addr.add _ _).block ≠ _; rw [add_block]; exact Kd.own_blk (Kd.R_ne HO_5.out BK158.out (by decide))) | (dsimp only; exact Kd.own_blk (Kd.R_ne HO_5.out BK158.out (by decide)))) _).trans (hHeld.1)))))))))), ((cell_far (p := ⟨gb158, _, none⟩) (by first | exact Kd.own_blk (Kd.R_ne HO_5.out BK158.out (by decide)) | (rw [add_block]; exact Kd.own_blk (Kd.R_ne HO_5.out BK158.out (by decide))) | (show (Addr.add _ _).block ≠ _; rw [add_block]; exact Kd.own_blk (Kd.R_ne HO_5.out BK158.out (by decide))) | (dsimp only; exact Kd.own_blk (Kd.R_ne HO_5.out BK158.out (by decide)))) _).trans (((cell_far (p := ⟨gb158, _, none⟩) (by first | exact Kd.own_blk (Kd.R_ne HO_5.out BK158.out (by decide)) | (rw [add_block]; exact Kd.own_blk (Kd.R_ne HO_5.out BK158.out (by decide))) | (show (Addr.add _ _).block ≠ _; rw [add_block]; exact Kd.own_blk (Kd.R_ne HO_5.out BK158.out (by decide))) | (dsimp only; exact Kd.own_blk (Kd.R_ne HO_5.out BK158.out (by decide)))) _).trans (((cell_far (p := ⟨gb158, _, none⟩) (by first | exact Kd.own_blk (Kd.R_ne HO_5.out BK158.out (by decide)) | (rw [add_block]; exact Kd.own_blk (Kd.R_ne HO_5.out BK158.out (by decide))) | (show (Addr.add _ _).block ≠ _; rw [add_block]; exact Kd.own_blk (Kd.R_ne HO_5.out BK158.out (by decide))) | (dsimp only; exact Kd.own_blk (Kd.R_ne HO_5.out BK158.out (by decide)))) _).trans (((cell_far (p := ⟨gb158, _, none⟩) (by first | exact Kd.own_blk (Kd.R_ne HO_5.out BK158.out (by decide)) | (rw [add_block]; exact Kd.own_blk (Kd.R_ne HO_5.out BK158.out (by decide))) | (show (Addr.add _ _).block ≠ _; rw [add_block]; exact Kd.own_blk (Kd.R_ne HO_5.out BK158.out (by decide))) | (dsimp only; exact Kd.own_blk (Kd.R_ne HO_5.out BK158.out (by decide)))) _).trans (((cell_far (p := ⟨gb158, _, none⟩) (by first | exact Kd.own_blk (Kd.R_ne HO_5.out BK158.out (by decide)) | (rw [add_block]; exact Kd.own_blk (Kd.R_ne HO_5.out BK158.out (by decide))) | (show (Addr.add _ _).block ≠ _; rw [add_block]; exact Kd.own_blk (Kd.R_ne HO_5.out BK158.out (by decide))) | (dsimp only; exact Kd.own_blk (Kd.R_ne HO_5.out BK158.out (by decide)))) _).trans (hHeld.2.1)))))))))), ((cell_far (p := ⟨gb158, _, none⟩) (by first | exact Kd.own_blk (Kd.R_ne HO_5.out BK158.out (by decide)) | (rw [add_block]; exact Kd.own_blk (Kd.R_ne HO_5.out BK158.out (by decide))) | (show (Addr.add _ _).block ≠ _; rw [add_block]; exact Kd.own_blk (Kd.R_ne HO_5.out BK158.out (by decide))) | (dsimp only; exact Kd.own_blk (Kd.R_ne HO_5.out BK158.out (by decide)))) _).trans (((cell_far (p := ⟨gb158, _, none⟩) (by first | exact Kd.own_blk (Kd.R_ne HO_5.out BK158.out (by decide)) | (rw [add_block]; exact Kd.own_blk (Kd.R_ne HO_5.out BK158.out (by decide))) | (show (Addr.add _ _).block ≠ _; rw [add_block]; exact Kd.own_blk (Kd.R_ne HO_5.out BK158.out (by decide))) | (dsimp only; exact Kd.own_blk (Kd.R_ne HO_5.out BK158.out (by decide)))) _).trans (((cell_far (p := ⟨gb158, _, none⟩) (by first | exact Kd.own_blk (Kd.R_ne HO_5.out BK158.out (by decide)) | (rw [add_block]; exact Kd.own_blk (Kd.R_ne HO_5.out BK158.out (by decide))) | (show (Addr.add _ _).block ≠ _; rw [add_block]; exact Kd.own_blk (Kd.R_ne HO_5.out BK158.out (by decide))) | (dsimp only; exact Kd.own_blk (Kd.R_ne HO_5.out BK158.out (by decide)))) _).trans (((cell_far (p := ⟨gb158, _, none⟩) (by first | exact Kd.own_blk (Kd.R_ne HO_5.out BK158.out (by decide)) | (rw [add_block]; exact Kd.own_blk (Kd.R_ne HO_5.out BK158.out (by decide))) | (show (Addr.add _ _).block ≠ _; rw [add_block]; exact Kd.own_blk (Kd.R_ne HO_5.out BK158.out (by decide))) | (dsimp only; exact Kd.own_blk (Kd.R_ne HO_5.out BK158.out (by decide)))) _).trans (((cell_far (p := ⟨gb158, _, none⟩) (by first | exact Kd.own_blk (Kd.R_ne HO_5.out BK158.out (by decide)) | (rw [add_block]; exact Kd.own_blk (Kd.R_ne HO_5.out BK158.out (by decide))) | (show (Addr.add _ _).block ≠ _; rw [add_block]; exact Kd.own_blk (Kd.R_ne HO_5.out BK158.out (by decide))) | (dsimp only; exact Kd.own_blk (Kd.R_ne HO_5.out BK158.out (by decide)))) _).trans (hHeld.2.2.1)))))))))), ((cell_far (p := ⟨gb158, _, none⟩) (by first | exact Kd.own_blk (Kd.R_ne HO_5.out BK158.out (by decide)) | (rw [add_block]; exact Kd.own_blk (Kd.R_ne HO_5.out BK158.out (by decide))) | (show (Addr.add _ _).block ≠ _; rw [add_block]; exact Kd.own_blk (Kd.R_ne HO_5.out BK158.out (by decide))) | (dsimp only; exact Kd.own_blk (Kd.R_ne HO_5.out BK158.out (by decide)))) _).trans (((cell_far (p := ⟨gb158, _, none⟩) (by first | exact Kd.own_blk (Kd.R_ne HO_5.out BK158.out (by decide)) | (rw [add_block]; exact Kd.own_blk (Kd.R_ne HO_5.out BK158.out (by decide))) | (show (Addr.add _ _).block ≠ _; rw [add_block]; exact Kd.own_blk (Kd.R_ne HO_5.out BK158.out (by decide))) | (dsimp only; exact Kd.own_blk (Kd.R_ne HO_5.out BK158.out (by decide)))) _).trans (((cell_far (p := ⟨gb158, _, none⟩) (by first | exact Kd.own_blk (Kd.R_ne HO_5.out BK158.out (by decide)) | (rw [add_block]; exact Kd.own_blk (Kd.R_ne HO_5.out BK158.out (by decide))) | (show (Addr.add _ _).block ≠ _; rw [add_block]; exact Kd.own_blk (Kd.R_ne HO_5.out BK158.out (by decide))) | (dsimp only; exact Kd.own_blk (Kd.R_ne HO_5.out BK158.out (by decide)))) _).trans (((cell_far (p := ⟨gb158, _, none⟩) (by first | exact Kd.own_blk (Kd.R_ne HO_5.out BK158.out (by decide)) | (rw [add_block]; exact Kd.own_blk (Kd.R_ne HO_5.out BK158.out (by decide))) | (show (Addr.add _ _).block ≠ _; rw [add_block]; exact Kd.own_blk (Kd.R_ne HO_5.out BK158.out (by decide))) | (dsimp only; exact Kd.own_blk (Kd.R_ne HO_5.out BK158.out (by decide)))) _).trans (((cell_far (p := ⟨gb158, _, none⟩) (by first | exact Kd.own_blk (Kd.R_ne HO_5.out BK158.out (by decide)) | (rw [add_block]; exact Kd.own_blk (Kd.R_ne HO_5.out BK158.out (by decide))) | (show (Addr.add _ _).block ≠ _; rw [add_block]; exact Kd.own_blk (Kd.R_ne HO_5.out BK158.out (by decide))) | (dsimp only; exact Kd.own_blk (Kd.R_ne HO_5.out BK158.out (by decide)))) _).trans (hHeld.2.2.2))))))))))⟩ (fun hHeld => ?_)
        clear hK K
        refine pure_ (i := 12) (N := some 3) (v := ?_) (a' := ?_) #[true, true, true, true, true, true, true, true, true, true, true, true, true, false] rfl rfl (any_of HT_.out (by kernel_rfl)) (fun _ _ _ h => h) (Or.inl ⟨by rfl, ?_⟩) ?_ ?_
        rotate_left
        ·intro w'
         go_simp
         with_reducible rfl
        rotate_left
        ·simp only [Act.put, List.setIfInBounds_toArray, List.set_cons_zero, List.set_cons_succ, i64_w, i32_w]
         rfl
        refine pure_ (i := 13) (N := some 4) (v := ?_) (a' := ?_) #[true, true, true, true, true, true, true, true, true, true, true, true, true, true] rfl rfl (any_of HT_.out (by kernel_rfl)) (fun _ _ _ h => h) (Or.inl ⟨by rfl, ?_⟩) ?_ ?_
        rotate_left
        ·intro w'
         go_simp
         with_reducible rfl
        rotate_left
        ·simp only [Act.put, List.setIfInBounds_toArray, List.set_cons_zero, List.set_cons_succ, i64_w, i32_w]
         rfl
        refine done_ (done_of HT_.out (by kernel_rfl)) ?_
        try go_wp2
        refine bodyPost_ret (results_ctt rfl _ _ gb158 26 #[.int .i64 0, .int .i64 0, .slice none 0 0, .string (⟨#[]⟩ : ByteArray), .slice none 0 0] (0, 0) _ rfl (by (with_reducible repeat (first | refine blk_drewN ?_ _ | refine blk_drew ?_ | refine blk_alloc ?_ _)); refine blk_put (cs := #[.int .i64 0, .int .i64 0, .slice none 0 0, .string (⟨#[]⟩ : ByteArray), .slice none 0 0]) ?_ 4 _ rfl; (with_reducible repeat (first | refine blk_drewN ?_ _ | refine blk_drew ?_ | refine blk_alloc ?_ _)); refine blk_put (cs := #[.int .i64 0, .int .i64 0, .slice none 0 0, .string (⟨#[]⟩ : ByteArray), .slice none 0 0]) ?_ 3 _ rfl; (with_reducible repeat (first | refine blk_drewN ?_ _ | refine blk_drew ?_ | refine blk_alloc ?_ _)); refine blk_put (cs := #[.int .i64 0, .int .i64 0, .slice none 0 0, .string (⟨#[]⟩ : ByteArray), .slice none 0 0]) ?_ 2 _ rfl; (with_reducible repeat (first | refine blk_drewN ?_ _ | refine blk_drew ?_ | refine blk_alloc ?_ _)); refine blk_put (cs := #[.int .i64 0, .int .i64 0, .slice none 0 0, .string (⟨#[]⟩ : ByteArray), .slice none 0 0]) ?_ 1 _ rfl; (with_reducible repeat (first | refine blk_drewN ?_ _ | refine blk_drew ?_ | refine blk_alloc ?_ _)); refine blk_put (cs := #[.int .i64 0, .int .i64 0, .slice none 0 0, .string (⟨#[]⟩ : ByteArray), .slice none 0 0]) ?_ 0 _ rfl; (with_reducible repeat (first | refine blk_drewN ?_ _ | refine blk_drew ?_ | refine blk_alloc ?_ _)); exact BK158.out) Tryz.underlying26 rfl (by kernel_rfl)) rfl ?_
        exact ⟨_, _, by first | rfl | (simp [errW_none, errW_some] <;> rfl) | (simp only [← hji23]; first | rfl | (simp [errW_none, errW_some] <;> rfl)) | (simp [*, errW_none, errW_some] <;> rfl), by first | exact Kd.R_nil _ _ _ _ _ | exact Kd.N_nil _ _ _ _ _ | exact Kd.V_nil _ _ _ _ _ | exact Kd.Q_nil _ _ _ _ _ | exact Kd.S_nil _ _ _ _ _, by first | exact Kd.R_nil _ _ _ _ _ | exact Kd.N_nil _ _ _ _ _ | exact Kd.V_nil _ _ _ _ _ | exact Kd.Q_nil _ _ _ _ _ | exact Kd.S_nil _ _ _ _ _, by repeat (first | (with_reducible first | exact HB.out | apply below_alloc | apply pw_below_drewN | apply below_drew1 | refine below_set ?_ GE158.out | refine below_set ?_ GE175.out) | exact HB.out)⟩
       ·rw [if_neg c25] at H
        exact absurd H (by simp)
      ·rw [if_neg c24] at H
       exact absurd H (by simp)
    ·replace c18 := Bool.eq_false_iff.mpr c18
     subst c18
     have H1 : (if t174 = 0 then (some (t164, t165, t166, t169, t170, 0, 0)) else (if 0 ≤ (mn t173 (wrap64 ((t159.length : Int) - 1))) then (if (mn t173 (wrap64 ((t159.length : Int) - 1))) < (t159.length : Int) then (some (0, 0, ([] : List (S58)), (⟨#[]⟩ : ByteArray), ([] : List (S26)), (rd_T77 t159 (mn t173 (wrap64 ((t159.length : Int) - 1)))).f1, t174)) else (none)) else (none))) = some (r1, r2, r3, r4, r5, r6, r7) := by rw [if_neg (show ¬ (false = true) by decide)] at H; exact H
     clear H
     have H := H1
     clear H1
     by_cases c32 : t174 = 0
     ·rw [if_pos c32] at H
      have c32b0 : (t174 == 0) = true := beq_iff_eq.mpr c32
      have c32b1 : (t174 != 0) = false := bne_eq_false_iff_eq.mpr c32
      clear c32
      simp only [Option.some.injEq, Prod.mk.injEq] at H
      obtain ⟨rfl, rfl, rfl, rfl, rfl, rfl, rfl⟩ := H
      have hnb33 := NB175_158.out
      have hnc33 := NB158_175.out
      have hcz34_0 : wc.cell? ⟨gb175, 0, none⟩ = some (.int .i64 t164) := (blk_cell BK175.out 0).trans rfl
      have hcz34_1 : wc.cell? ⟨gb175, 1, none⟩ = some (.int .i64 t165) := (blk_cell BK175.out 1).trans rfl
      have hcz34_2 : wc.cell? ⟨gb175, 2, none⟩ = some (.slice Ao13 t166.length co13) := (blk_cell BK175.out 2).trans rfl
      have hcz34_3 : wc.cell? ⟨gb175, 3, none⟩ = some (.string t169) := (blk_cell BK175.out 3).trans rfl
      have hcz34_4 : wc.cell? ⟨gb175, 4, none⟩ = some (.slice Ao14 t170.length co14) := (blk_cell BK175.out 4).trans rfl
      have hfz34_0 := blk_frozen BK175.out 0
      have hfz34_1 := blk_frozen BK175.out 1
      have hfz34_2 := blk_frozen BK175.out 2
      have hfz34_3 := blk_frozen BK175.out 3
      have hfz34_4 := blk_frozen BK175.out 4
      have hcz35_0 : wc.cell? ⟨gb158, 0, none⟩ = some (.int .i64 0) := (blk_cell BK158.out 0).trans rfl
      have hcz35_1 : wc.cell? ⟨gb158, 1, none⟩ = some (.int .i64 0) := (blk_cell BK158.out 1).trans rfl
      have hcz35_2 : wc.cell? ⟨gb158, 2, none⟩ = some (.slice none 0 0) := (blk_cell BK158.out 2).trans rfl
      have hcz35_3 : wc.cell? ⟨gb158, 3, none⟩ = some (.string (⟨#[]⟩ : ByteArray)) := (blk_cell BK158.out 3).trans rfl
      have hcz35_4 : wc.cell? ⟨gb158, 4, none⟩ = some (.slice none 0 0) := (blk_cell BK158.out 4).trans rfl
      have hfz35_0 := blk_frozen BK158.out 0
      have hfz35_1 := blk_frozen BK158.out 1
      have hfz35_2 := blk_frozen BK158.out 2
      have hfz35_3 := blk_frozen BK158.out 3
      have hfz35_4 := blk_frozen BK158.out 4
      go_wp2
      refine bodyPost_ret (results_ctt rfl _ _ gb158 26 #[.int .i64 t164, .int .i64 t165, .slice Ao13 t166.length co13, .string t169, .slice Ao14 t170.length co14] (0, 0) _ rfl (by (with_reducible repeat (first | refine blk_drewN ?_ _ | refine blk_drew ?_ | refine blk_alloc ?_ _)); refine blk_put (cs := #[.int .i64 t164, .int .i64 t165, .slice Ao13 t166.length co13, .string t169, .slice none 0 0]) ?_ 4 _ rfl; (with_reducible repeat (first | refine blk_drewN ?_ _ | refine blk_drew ?_ | refine blk_alloc ?_ _)); refine blk_put (cs := #[.int .i64 t164, .int .i64 t165, .slice Ao13 t166.length co13, .string (⟨#[]⟩ : ByteArray), .slice none 0 0]) ?_ 3 _ rfl; (with_reducible repeat (first | refine blk_drewN ?_ _ | refine blk_drew ?_ | refine blk_alloc ?_ _)); refine blk_put (cs := #[.int .i64 t164, .int .i64 t165, .slice none 0 0, .string (⟨#[]⟩ : ByteArray), .slice none 0 0]) ?_ 2 _ rfl; (with_reducible repeat (first | refine blk_drewN ?_ _ | refine blk_drew ?_ | refine blk_alloc ?_ _)); refine blk_put (cs := #[.int .i64 t164, .int .i64 0, .slice none 0 0, .string (⟨#[]⟩ : ByteArray), .slice none 0 0]) ?_ 1 _ rfl; (with_reducible repeat (first | refine blk_drewN ?_ _ | refine blk_drew ?_ | refine blk_alloc ?_ _)); refine blk_put (cs := #[.int .i64 0, .int .i64 0, .slice none 0 0, .string (⟨#[]⟩ : ByteArray), .slice none 0 0]) ?_ 0 _ rfl; (with_reducible repeat (first | refine blk_drewN ?_ _ | refine blk_drew ?_ | refine blk_alloc ?_ _)); exact BK158.out) Tryz.underlying26 rfl (by kernel_rfl)) rfl ?_
      exact ⟨_, _, by first | rfl | (simp [errW_none, errW_some] <;> rfl) | (simp [*, errW_none, errW_some] <;> rfl), by (with_reducible repeat (first | apply Kd.R_alloc | apply Kd.R_drewN | apply Kd.R_drew)); exact Kd.R_mono (Kd.R_far (p := ⟨gb158, 4, none⟩) (Kd.R_far (p := ⟨gb158, 3, none⟩) (Kd.R_far (p := ⟨gb158, 2, none⟩) (Kd.R_far (p := ⟨gb158, 1, none⟩) (Kd.R_far (p := ⟨gb158, 0, none⟩) (Kd.R_types HO_176002.out BK158.out (by decide)) (fun _ hk => hk.2) (.int .i64 t164)) (fun _ hk => hk.2) (.int .i64 t165)) (fun _ hk => hk.2) (.slice Ao13 t166.length co13)) (fun _ hk => hk.2) (.string t169)) (fun _ hk => hk.2) (.slice Ao14 t170.length co14)) (fun _ hk => trivial), by (with_reducible repeat (first | apply Kd.R_alloc | apply Kd.R_drewN | apply Kd.R_drew)); exact Kd.R_mono (Kd.R_far (p := ⟨gb158, 4, none⟩) (Kd.R_far (p := ⟨gb158, 3, none⟩) (Kd.R_far (p := ⟨gb158, 2, none⟩) (Kd.R_far (p := ⟨gb158, 1, none⟩) (Kd.R_far (p := ⟨gb158, 0, none⟩) (Kd.R_mono HO_176004.out (fun k_ hk => (⟨hk, hk.2.1⟩ : _ ∧ k_ ≠ gb158))) (fun _ hk => hk.2) (.int .i64 t164)) (fun _ hk => hk.2) (.int .i64 t165)) (fun _ hk => hk.2) (.slice Ao13 t166.length co13)) (fun _ hk => hk.2) (.string t169)) (fun _ hk => hk.2) (.slice Ao14 t170.length co14)) (fun _ hk => hk.1.1), by repeat (first | (with_reducible first | exact HB.out | apply below_alloc | apply pw_below_drewN | apply below_drew1 | refine below_set ?_ GE158.out | refine below_set ?_ GE175.out) | exact HB.out)⟩
     ·rw [if_neg c32] at H
      have c32b0 : (t174 == 0) = false := beq_eq_false_iff_ne.mpr c32
      have c32b1 : (t174 != 0) = true := bne_iff_ne.mpr c32
      obtain ⟨ji36, hji36⟩ : ∃ j_ : Int, (mn t173 (wrap64 ((t159.length : Int) - 1))) = j_ := ⟨_, rfl⟩
      replace H : (if 0 ≤ (ji36) then (if (ji36) < (t159.length : Int) then (some (0, 0, ([] : List (S58)), (⟨#[]⟩ : ByteArray), ([] : List (S26)), (rd_T77 t159 (ji36)).f1, t174)) else (none)) else (none)) = some (r1, r2, r3, r4, r5, r6, r7) := by first | (rw [hji36] at H; exact H) | (simp only [hji36] at H ⊢; exact H)
      have hji36_ : (if (wrap64 ((t159.length : Int) - 1)) < t173 then (wrap64 ((t159.length : Int) - 1)) else t173) = ji36 := hji36
      by_cases c37 : 0 ≤ (ji36)
      ·rw [if_pos c37] at H
       have c37b0 : decide (0 ≤ (ji36)) = true := decide_eq_true c37
       clear c37
       by_cases c38 : (ji36) < (t159.length : Int)
       ·rw [if_pos c38] at H
        have c38b0 : decide ((ji36) < (t159.length : Int)) = true := decide_eq_true c38
        clear c38
        simp only [Option.some.injEq, Prod.mk.injEq] at H
        obtain ⟨rfl, rfl, rfl, rfl, rfl, rfl, rfl⟩ := H
        try go_wp2
        have n0_ := Aside0.mk (Kd.R_drew HO_5.out)
        have n1_ := Aside0.mk (Kd.R_drew HO_176002.out)
        have n2_ := Aside0.mk (Kd.R_drew HO_176004.out)
        have n3_ := Aside0.mk (blk_drew BK158.out)
        have n4_ := Aside0.mk (blk_drew BK175.out)
        have n5_ := Aside0.mk (below_drew1 HB.out)
        clear HO_5
        clear HO_176002
        clear HO_176004
        clear BK158
        clear BK175
        clear HB
        have HO_5 := n0_
        have HO_176002 := n1_
        have HO_176004 := n2_
        have BK158 := n3_
        have BK175 := n4_
        have HB := n5_
        clear n0_ n1_ n2_ n3_ n4_ n5_
        have p178 : 0 ≤ ((ji36) : Int) := of_decide_eq_true (by first | (with_reducible assumption) | assumption)
        have q178 : (ji36) < (t159.length : Int) := of_decide_eq_true (by first | (with_reducible assumption) | assumption)
        obtain ⟨ad178, e178, hx178_0, hx178_1, hx178_2, hx178_3⟩ := at_T77 (Kd.R_reads' HO_5.out).2.2 (ji36) p178 q178
        cases e178
        replace p178 := eq_true p178
        replace q178 := eq_true q178
        refine start_ (n := 14) (S := fun w' => w'.cell? (ad178.add (((ji36)).toNat * 4)) = some (.int .i64 ((rd_T77 t159 (ji36)).f0)) ∧ w'.cell? ⟨(ad178.add (((ji36)).toNat * 4)).block, (ad178.add (((ji36)).toNat * 4)).off + 1, none⟩ = some (.int .i64 ((rd_T77 t159 (ji36)).f1)) ∧ w'.cell? ⟨(ad178.add (((ji36)).toNat * 4)).block, (ad178.add (((ji36)).toNat * 4)).off + 2, none⟩ = some (.string ((rd_T77 t159 (ji36)).f2)) ∧ w'.cell? ⟨(ad178.add (((ji36)).toNat * 4)).block, (ad178.add (((ji36)).toNat * 4)).off + 3, none⟩ = some (.int .i32 ((rd_T77 t159 (ji36)).f3))) (ds := []) #[false, false, false, false, false, false, false, false, false, false, false, false, false, false] (by kernel_rfl) rfl rfl ⟨hx178_0, hx178_1, hx178_2, hx178_3⟩ (fun hHeld => ?_); refine with_tabW regex_Parse.tab8 regex_Parse.bits8 (fun HT_ HW_ => ?_)
        generalize wc.drew = w39 at HO_5 HO_176002 HO_176004 BK158 BK175 HB hx178_0 hx178_1 hx178_2 hx178_3 hHeld ⊢
        refine pure_ (i := 0) (N := some 39) (v := ?_) (a' := ?_) #[true, false, false, false, false, false, false, false, false, false, false, false, false, false] rfl rfl (any_of HT_.out (by kernel_rfl)) (fun _ _ _ h => h) (Or.inl ⟨by rfl, ?_⟩) ?_ ?_
        rotate_left
        ·intro w'
         go_simp
         with_reducible rfl
        rotate_left
        ·simp only [Act.put, List.setIfInBounds_toArray, List.set_cons_zero, List.set_cons_succ, i64_w, i32_w]
         rfl
        refine pure_ (i := 1) (N := some 40) (v := ?_) (a' := ?_) #[true, true, false, false, false, false, false, false, false, false, false, false, false, false] rfl rfl (any_of HT_.out (by kernel_rfl)) (fun _ _ _ h => h) (Or.inl ⟨by rfl, ?_⟩) ?_ ?_
        rotate_left
        ·intro w'
         go_simp
         with_reducible rfl
        rotate_left
        ·simp only [Act.put, List.setIfInBounds_toArray, List.set_cons_zero, List.set_cons_succ, i64_w, i32_w]
         rfl
        refine pure_ (i := 2) (N := some 41) (v := ?_) (a' := ?_) #[true, true, true, false, false, false, false, false, false, false, false, false, false, false] rfl rfl (any_of HT_.out (by kernel_rfl)) (fun _ _ _ h => h) (Or.inl ⟨by rfl, ?_⟩) ?_ ?_
        rotate_left
        ·intro w'
         go_simp
         with_reducible rfl
        rotate_left
        ·simp only [Act.put, List.setIfInBounds_toArray, List.set_cons_zero, List.set_cons_succ, i64_w, i32_w]
         rfl
        refine pure_ (i := 3) (N := some 42) (v := ?_) (a' := ?_) #[true, true, true, true, false, false, false, false, false, false, false, false, false, false] rfl rfl (any_of HT_.out (by kernel_rfl)) (fun _ _ _ h => h) (Or.inl ⟨by rfl, ?_⟩) ?_ ?_
        rotate_left
        ·intro w'
         go_simp
         with_reducible rfl
        rotate_left
        ·simp only [Act.put, List.setIfInBounds_toArray, List.set_cons_zero, List.set_cons_succ, i64_w, i32_w]
         rfl
        refine pure_ (i := 4) (N := some 43) (v := ?_) (a' := ?_) #[true, true, true, true, true, false, false, false, false, false, false, false, false, false] rfl rfl (any_of HT_.out (by kernel_rfl)) (fun _ _ _ h => h) (Or.inl ⟨by rfl, ?_⟩) ?_ ?_
        rotate_left
        ·intro w'
         go_simp
         with_reducible rfl
        rotate_left
        ·simp only [Act.put, List.setIfInBounds_toArray, List.set_cons_zero, List.set_cons_succ, i64_w, i32_w]
         rfl
        refine pure_ (i := 5) (N := some 44) (v := ?_) (a' := ?_) #[true, true, true, true, true, true, false, false, false, false, false, false, false, false] rfl rfl (any_of HT_.out (by kernel_rfl)) (fun _ _ _ h => h) (Or.inl ⟨by rfl, ?_⟩) ?_ ?_
        rotate_left
        ·intro w'
         go_simp
         with_reducible rfl
        rotate_left
        ·simp only [Act.put, List.setIfInBounds_toArray, List.set_cons_zero, List.set_cons_succ, i64_w, i32_w]
         rfl
        refine pure_ (i := 6) (N := some 45) (v := ?_) (a' := ?_) #[true, true, true, true, true, true, true, false, false, false, false, false, false, false] rfl rfl (any_of HT_.out (by kernel_rfl)) (fun _ _ _ h => h) (Or.inl ⟨by rfl, ?_⟩) ?_ ?_
        rotate_left
        ·intro w'
         go_simp
         with_reducible rfl
        rotate_left
        ·simp only [Act.put, List.setIfInBounds_toArray, List.set_cons_zero, List.set_cons_succ, i64_w, i32_w]
         rfl
        refine pure_ (i := 7) (N := some 46) (v := ?_) (a' := ?_) #[true, true, true, true, true, true, true, true, false, false, false, false, false, false] rfl rfl (any_of HT_.out (by kernel_rfl)) (fun _ _ _ h => h) (Or.inl ⟨by rfl, ?_⟩) ?_ ?_
        rotate_left
        ·intro w'
         go_simp
         with_reducible rfl
        rotate_left
        ·simp only [Act.put, List.setIfInBounds_toArray, List.set_cons_zero, List.set_cons_succ, i64_w, i32_w]
         rfl
        refine pure_ (i := 8) (N := some 47) (v := ?_) (a' := ?_) #[true, true, true, true, true, true, true, true, true, false, false, false, false, false] rfl rfl (any_of HT_.out (by kernel_rfl)) (fun _ _ _ h => h) (Or.inl ⟨by rfl, ?_⟩) ?_ ?_
        rotate_left
        ·intro w'
         go_simp
         with_reducible rfl
        rotate_left
        ·simp only [Act.put, List.setIfInBounds_toArray, List.set_cons_zero, List.set_cons_succ, i64_w, i32_w]
         rfl
        refine pure_ (i := 10) (N := some 49) (v := ?_) (a' := ?_) #[true, true, true, true, true, true, true, true, true, false, true, false, false, false] rfl rfl (any_of HT_.out (by kernel_rfl)) (fun _ _ _ h => h) (Or.inl ⟨by rfl, ?_⟩) ?_ ?_
        rotate_left
        ·intro w'
         go_simp
         with_reducible rfl
        rotate_left
        ·simp only [Act.put, List.setIfInBounds_toArray, List.set_cons_zero, List.set_cons_succ, i64_w, i32_w]
         rfl
        refine take_ (i := 9) (N := some 48) (v := ?_) (a' := ?_) #[true, true, true, true, true, true, true, true, true, true, true, false, false, false] rfl rfl (take_ofW HT_.out HW_.out (by kernel_rfl)) (fun _ _ _ h => h) (Or.inl ⟨by rfl, ?_⟩) hHeld ?_ ?_
        rotate_left
        ·rintro w' ⟨s0, s1, s2, s3⟩
         go_simp
         with_reducible rfl
        rotate_left
        ·simp only [Act.put, List.setIfInBounds_toArray, List.set_cons_zero, List.set_cons_succ, i64_w, i32_w]
         rfl
        refine one_ (i := 11) (N := none) #[true, true, true, true, true, true, true, true, true, true, true, true, false, false] rfl rfl (one_of HT_.out (by kernel_rfl)) (by decide) (fun K hK => ?_)
        have hs40 : w39.cell? ⟨gb158, 0, none⟩ = some (.int .i64 0) := (blk_cell BK158.out 0).trans rfl
        have hfs40 := blk_frozen BK158.out 0
        have hns40_1 := NB175_158.out
        have hms40_1 := NB158_175.out
        have hs41 : w39.cell? ⟨gb158, 1, none⟩ = some (.int .i64 0) := (blk_cell BK158.out 1).trans rfl
        have hfs41 := blk_frozen BK158.out 1
        have hns41_1 := NB175_158.out
        have hms41_1 := NB158_175.out
        have hs42 : w39.cell? ⟨gb158, 2, none⟩ = some (.slice none 0 0) := (blk_cell BK158.out 2).trans rfl
        have hfs42 := blk_frozen BK158.out 2
        have hns42_1 := NB175_158.out
        have hms42_1 := NB158_175.out
        have hs43 : w39.cell? ⟨gb158, 3, none⟩ = some (.string (⟨#[]⟩ : ByteArray)) := (blk_cell BK158.out 3).trans rfl
        have hfs43 := blk_frozen BK158.out 3
        have hns43_1 := NB175_158.out
        have hms43_1 := NB158_175.out
        have hs44 : w39.cell? ⟨gb158, 4, none⟩ = some (.slice none 0 0) := (blk_cell BK158.out 4).trans rfl
        have hfs44 := blk_frozen BK158.out 4
        have hns44_1 := NB175_158.out
        have hms44_1 := NB158_175.out
        refine skip_ (w1 := ?_) (by rfl) rfl ?_ ?_
        rotate_left
        ·go_simp
         rfl
        refine hK.out _ _ ⟨((cell_far (p := ⟨gb158, _, none⟩) (by first | exact Kd.own_blk (Kd.R_ne HO_5.out BK158.out (by decide)) | (rw [add_block]; exact Kd.own_blk (Kd.R_ne HO_5.out BK158.out (by decide))) | (show (Addr.add _ _).block ≠ _; rw [add_block]; exact Kd.own_blk (Kd.R_ne HO_5.out BK158.out (by decide))) | (dsimp only; exact Kd.own_blk (Kd.R_ne HO_5.out BK158.out (by decide)))) _).trans (((cell_far (p := ⟨gb158, _, none⟩) (by first | exact Kd.own_blk (Kd.R_ne HO_5.out BK158.out (by decide)) | (rw [add_block]; exact Kd.own_blk (Kd.R_ne HO_5.out BK158.out (by decide))) | (show (Addr.add _ _).block ≠ _; rw [add_block]; exact Kd.own_blk (Kd.R_ne HO_5.out BK158.out (by decide))) | (dsimp only; exact Kd.own_blk (Kd.R_ne HO_5.out BK158.out (by decide)))) _).trans (((cell_far (p := ⟨gb158, _, none⟩) (by first | exact Kd.own_blk (Kd.R_ne HO_5.out BK158.out (by decide)) | (rw [add_block]; exact Kd.own_blk (Kd.R_ne HO_5.out BK158.out (by decide))) | (show (Addr.add _ _).block ≠ _; rw [add_block]; exact Kd.own_blk (Kd.R_ne HO_5.out BK158.out (by decide))) | (dsimp only; exact Kd.own_blk (Kd.R_ne HO_5.out BK158.out (by decide)))) _).trans (((cell_far (p := ⟨gb158, _, none⟩) (by first | exact Kd.own_blk (Kd.R_ne HO_5.out BK158.out (by decide)) | (rw [add_block]; exact Kd.own_blk (Kd.R_ne HO_5.out BK158.out (by decide))) | (show (Addr.add _ _).block ≠ _; rw [add_block]; exact Kd.own_blk (Kd.R_ne HO_5.out BK158.out (by decide))) | (dsimp only; exact Kd.own_blk (Kd.R_ne HO_5.out BK158.out (by decide)))) _).trans (((cell_far (p := ⟨gb158, _, none⟩) (by first | exact Kd.own_blk (Kd.R_ne HO_5.out BK158.out (by decide)) | (rw [add_block]; exact Kd.own_blk (Kd.R_ne HO_5.out BK158.out (by decide))) | (show (Addr.add _ _).block ≠ _; rw [add_block]; exact Kd.own_blk (Kd.R_ne HO_5.out BK158.out (by decide))) | (dsimp only; exact Kd.own_blk (Kd.R_ne HO_5.out BK158.out (by decide)))) _).trans (hHeld.1)))))))))), ((cell_far (p := ⟨gb158, _, none⟩) (by first | exact Kd.own_blk (Kd.R_ne HO_5.out BK158.out (by decide)) | (rw [add_block]; exact Kd.own_blk (Kd.R_ne HO_5.out BK158.out (by decide))) | (show (Addr.add _ _).block ≠ _; rw [add_block]; exact Kd.own_blk (Kd.R_ne HO_5.out BK158.out (by decide))) | (dsimp only; exact Kd.own_blk (Kd.R_ne HO_5.out BK158.out (by decide)))) _).trans (((cell_far (p := ⟨gb158, _, none⟩) (by first | exact Kd.own_blk (Kd.R_ne HO_5.out BK158.out (by decide)) | (rw [add_block]; exact Kd.own_blk (Kd.R_ne HO_5.out BK158.out (by decide))) | (show (Addr.add _ _).block ≠ _; rw [add_block]; exact Kd.own_blk (Kd.R_ne HO_5.out BK158.out (by decide))) | (dsimp only; exact Kd.own_blk (Kd.R_ne HO_5.out BK158.out (by decide)))) _).trans (((cell_far (p := ⟨gb158, _, none⟩) (by first | exact Kd.own_blk (Kd.R_ne HO_5.out BK158.out (by decide)) | (rw [add_block]; exact Kd.own_blk (Kd.R_ne HO_5.out BK158.out (by decide))) | (show (Addr.add _ _).block ≠ _; rw [add_block]; exact Kd.own_blk (Kd.R_ne HO_5.out BK158.out (by decide))) | (dsimp only; exact Kd.own_blk (Kd.R_ne HO_5.out BK158.out (by decide)))) _).trans (((cell_far (p := ⟨gb158, _, none⟩) (by first | exact Kd.own_blk (Kd.R_ne HO_5.out BK158.out (by decide)) | (rw [add_block]; exact Kd.own_blk (Kd.R_ne HO_5.out BK158.out (by decide))) | (show (Addr.add _ _).block ≠ _; rw [add_block]; exact Kd.own_blk (Kd.R_ne HO_5.out BK158.out (by decide))) | (dsimp only; exact Kd.own_blk (Kd.R_ne HO_5.out BK158.out (by decide)))) _).trans (((cell_far (p := ⟨gb158, _, none⟩) (by first | exact Kd.own_blk (Kd.R_ne HO_5.out BK158.out (by decide)) | (rw [add_block]; exact Kd.own_blk (Kd.R_ne HO_5.out BK158.out (by decide))) | (show (Addr.add _ _).block ≠ _; rw [add_block]; exact Kd.own_blk (Kd.R_ne HO_5.out BK158.out (by decide))) | (dsimp only; exact Kd.own_blk (Kd.R_ne HO_5.out BK158.out (by decide)))) _).trans (hHeld.2.1)))))))))), ((cell_far (p := ⟨gb158, _, none⟩) (by first | exact Kd.own_blk (Kd.R_ne HO_5.out BK158.out (by decide)) | (rw [add_block]; exact Kd.own_blk (Kd.R_ne HO_5.out BK158.out (by decide))) | (show (Addr.add _ _).block ≠ _; rw [add_block]; exact Kd.own_blk (Kd.R_ne HO_5.out BK158.out (by decide))) | (dsimp only; exact Kd.own_blk (Kd.R_ne HO_5.out BK158.out (by decide)))) _).trans (((cell_far (p := ⟨gb158, _, none⟩) (by first | exact Kd.own_blk (Kd.R_ne HO_5.out BK158.out (by decide)) | (rw [add_block]; exact Kd.own_blk (Kd.R_ne HO_5.out BK158.out (by decide))) | (show (Addr.add _ _).block ≠ _; rw [add_block]; exact Kd.own_blk (Kd.R_ne HO_5.out BK158.out (by decide))) | (dsimp only; exact Kd.own_blk (Kd.R_ne HO_5.out BK158.out (by decide)))) _).trans (((cell_far (p := ⟨gb158, _, none⟩) (by first | exact Kd.own_blk (Kd.R_ne HO_5.out BK158.out (by decide)) | (rw [add_block]; exact Kd.own_blk (Kd.R_ne HO_5.out BK158.out (by decide))) | (show (Addr.add _ _).block ≠ _; rw [add_block]; exact Kd.own_blk (Kd.R_ne HO_5.out BK158.out (by decide))) | (dsimp only; exact Kd.own_blk (Kd.R_ne HO_5.out BK158.out (by decide)))) _).trans (((cell_far (p := ⟨gb158, _, none⟩) (by first | exact Kd.own_blk (Kd.R_ne HO_5.out BK158.out (by decide)) | (rw [add_block]; exact Kd.own_blk (Kd.R_ne HO_5.out BK158.out (by decide))) | (show (Addr.add _ _).block ≠ _; rw [add_block]; exact Kd.own_blk (Kd.R_ne HO_5.out BK158.out (by decide))) | (dsimp only; exact Kd.own_blk (Kd.R_ne HO_5.out BK158.out (by decide)))) _).trans (((cell_far (p := ⟨gb158, _, none⟩) (by first | exact Kd.own_blk (Kd.R_ne HO_5.out BK158.out (by decide)) | (rw [add_block]; exact Kd.own_blk (Kd.R_ne HO_5.out BK158.out (by decide))) | (show (Addr.add _ _).block ≠ _; rw [add_block]; exact Kd.own_blk (Kd.R_ne HO_5.out BK158.out (by decide))) | (dsimp only; exact Kd.own_blk (Kd.R_ne HO_5.out BK158.out (by decide)))) _).trans (hHeld.2.2.1)))))))))), ((cell_far (p := ⟨gb158, _, none⟩) (by first | exact Kd.own_blk (Kd.R_ne HO_5.out BK158.out (by decide)) | (rw [add_block]; exact Kd.own_blk (Kd.R_ne HO_5.out BK158.out (by decide))) | (show (Addr.add _ _).block ≠ _; rw [add_block]; exact Kd.own_blk (Kd.R_ne HO_5.out BK158.out (by decide))) | (dsimp only; exact Kd.own_blk (Kd.R_ne HO_5.out BK158.out (by decide)))) _).trans (((cell_far (p := ⟨gb158, _, none⟩) (by first | exact Kd.own_blk (Kd.R_ne HO_5.out BK158.out (by decide)) | (rw [add_block]; exact Kd.own_blk (Kd.R_ne HO_5.out BK158.out (by decide))) | (show (Addr.add _ _).block ≠ _; rw [add_block]; exact Kd.own_blk (Kd.R_ne HO_5.out BK158.out (by decide))) | (dsimp only; exact Kd.own_blk (Kd.R_ne HO_5.out BK158.out (by decide)))) _).trans (((cell_far (p := ⟨gb158, _, none⟩) (by first | exact Kd.own_blk (Kd.R_ne HO_5.out BK158.out (by decide)) | (rw [add_block]; exact Kd.own_blk (Kd.R_ne HO_5.out BK158.out (by decide))) | (show (Addr.add _ _).block ≠ _; rw [add_block]; exact Kd.own_blk (Kd.R_ne HO_5.out BK158.out (by decide))) | (dsimp only; exact Kd.own_blk (Kd.R_ne HO_5.out BK158.out (by decide)))) _).trans (((cell_far (p := ⟨gb158, _, none⟩) (by first | exact Kd.own_blk (Kd.R_ne HO_5.out BK158.out (by decide)) | (rw [add_block]; exact Kd.own_blk (Kd.R_ne HO_5.out BK158.out (by decide))) | (show (Addr.add _ _).block ≠ _; rw [add_block]; exact Kd.own_blk (Kd.R_ne HO_5.out BK158.out (by decide))) | (dsimp only; exact Kd.own_blk (Kd.R_ne HO_5.out BK158.out (by decide)))) _).trans (((cell_far (p := ⟨gb158, _, none⟩) (by first | exact Kd.own_blk (Kd.R_ne HO_5.out BK158.out (by decide)) | (rw [add_block]; exact Kd.own_blk (Kd.R_ne HO_5.out BK158.out (by decide))) | (show (Addr.add _ _).block ≠ _; rw [add_block]; exact Kd.own_blk (Kd.R_ne HO_5.out BK158.out (by decide))) | (dsimp only; exact Kd.own_blk (Kd.R_ne HO_5.out BK158.out (by decide)))) _).trans (hHeld.2.2.2))))))))))⟩ (fun hHeld => ?_)
        clear hK K
        refine pure_ (i := 12) (N := some 3) (v := ?_) (a' := ?_) #[true, true, true, true, true, true, true, true, true, true, true, true, true, false] rfl rfl (any_of HT_.out (by kernel_rfl)) (fun _ _ _ h => h) (Or.inl ⟨by rfl, ?_⟩) ?_ ?_
        rotate_left
        ·intro w'
         go_simp
         with_reducible rfl
        rotate_left
        ·simp only [Act.put, List.setIfInBounds_toArray, List.set_cons_zero, List.set_cons_succ, i64_w, i32_w]
         rfl
        refine pure_ (i := 13) (N := some 4) (v := ?_) (a' := ?_) #[true, true, true, true, true, true, true, true, true, true, true, true, true, true] rfl rfl (any_of HT_.out (by kernel_rfl)) (fun _ _ _ h => h) (Or.inl ⟨by rfl, ?_⟩) ?_ ?_
        rotate_left
        ·intro w'
         go_simp
         with_reducible rfl
        rotate_left
        ·simp only [Act.put, List.setIfInBounds_toArray, List.set_cons_zero, List.set_cons_succ, i64_w, i32_w]
         rfl
        refine done_ (done_of HT_.out (by kernel_rfl)) ?_
        try go_wp2
        refine bodyPost_ret (results_ctt rfl _ _ gb158 26 #[.int .i64 0, .int .i64 0, .slice none 0 0, .string (⟨#[]⟩ : ByteArray), .slice none 0 0] (0, 0) _ rfl (by (with_reducible repeat (first | refine blk_drewN ?_ _ | refine blk_drew ?_ | refine blk_alloc ?_ _)); refine blk_put (cs := #[.int .i64 0, .int .i64 0, .slice none 0 0, .string (⟨#[]⟩ : ByteArray), .slice none 0 0]) ?_ 4 _ rfl; (with_reducible repeat (first | refine blk_drewN ?_ _ | refine blk_drew ?_ | refine blk_alloc ?_ _)); refine blk_put (cs := #[.int .i64 0, .int .i64 0, .slice none 0 0, .string (⟨#[]⟩ : ByteArray), .slice none 0 0]) ?_ 3 _ rfl; (with_reducible repeat (first | refine blk_drewN ?_ _ | refine blk_drew ?_ | refine blk_alloc ?_ _)); refine blk_put (cs := #[.int .i64 0, .int .i64 0, .slice none 0 0, .string (⟨#[]⟩ : ByteArray), .slice none 0 0]) ?_ 2 _ rfl; (with_reducible repeat (first | refine blk_drewN ?_ _ | refine blk_drew ?_ | refine blk_alloc ?_ _)); refine blk_put (cs := #[.int .i64 0, .int .i64 0, .slice none 0 0, .string (⟨#[]⟩ : ByteArray), .slice none 0 0]) ?_ 1 _ rfl; (with_reducible repeat (first | refine blk_drewN ?_ _ | refine blk_drew ?_ | refine blk_alloc ?_ _)); refine blk_put (cs := #[.int .i64 0, .int .i64 0, .slice none 0 0, .string (⟨#[]⟩ : ByteArray), .slice none 0 0]) ?_ 0 _ rfl; (with_reducible repeat (first | refine blk_drewN ?_ _ | refine blk_drew ?_ | refine blk_alloc ?_ _)); exact BK158.out) Tryz.underlying26 rfl (by kernel_rfl)) rfl ?_
        exact ⟨_, _, by first | rfl | (simp [errW_none, errW_some] <;> rfl) | (simp only [← hji36]; first | rfl | (simp [errW_none, errW_some] <;> rfl)) | (simp [*, errW_none, errW_some] <;> rfl), by first | exact Kd.R_nil _ _ _ _ _ | exact Kd.N_nil _ _ _ _ _ | exact Kd.V_nil _ _ _ _ _ | exact Kd.Q_nil _ _ _ _ _ | exact Kd.S_nil _ _ _ _ _, by first | exact Kd.R_nil _ _ _ _ _ | exact Kd.N_nil _ _ _ _ _ | exact Kd.V_nil _ _ _ _ _ | exact Kd.Q_nil _ _ _ _ _ | exact Kd.S_nil _ _ _ _ _, by repeat (first | (with_reducible first | exact HB.out | apply below_alloc | apply pw_below_drewN | apply below_drew1 | refine below_set ?_ GE158.out | refine below_set ?_ GE175.out) | exact HB.out)⟩
       ·rw [if_neg c38] at H
        exact absurd H (by simp)
      ·rw [if_neg c37] at H
       exact absurd H (by simp)
 ·rw [if_neg c3] at H
  have c3b0 : (t161 == 0) = false := beq_eq_false_iff_ne.mpr c3
  have c3b1 : (t161 != 0) = true := bne_iff_ne.mpr c3
  simp only [Option.some.injEq, Prod.mk.injEq] at H
  obtain ⟨rfl, rfl, rfl, rfl, rfl, rfl, rfl⟩ := H
  go_enter Tryz.func13, Tryz.ntmps13
  go_wp2_with (first | ((with_reducible refine gate_dst (N := 2) rfl ?_); refine box_event ?hg (N := 2) ?hd (cs := #[.int .i64 0, .int .i64 0, .slice none 0 0, .string (⟨#[]⟩ : ByteArray), .slice none 0 0]) (t := 26) ?hr ?_; (case hd => rfl); (case hg => rfl); (case hr => first | (go_simp; done) | (go_simp; rfl)); intro gb158 hg w45 hbox hb; have n0_ := Aside0.mk (below_step (by repeat (first | (with_reducible first | exact HB.out | apply below_alloc | apply pw_below_drewN | apply below_drew1) | exact HB.out)) hb); have n1_ := Aside0.mk (hbox); have n2_ := Aside0.mk ((by rw [hg]; exact (below_size (by repeat (first | (with_reducible first | exact HB.out | apply below_alloc | apply pw_below_drewN | apply below_drew1) | exact HB.out))) : w.heap.size ≤ gb158)); have n3_ := Aside0.mk ((by rw [hg]; exact (below_size (by repeat (first | (with_reducible first | exact HB.out | apply below_alloc | apply pw_below_drewN | apply below_drew1) | exact HB.out))) : w.heap.size ≤ gb158)); clear HB; have HB := n0_; have BK158 := n1_; have GW158 := n2_; have GE158 := n3_; clear n0_ n1_ n2_ n3_; clear hb hbox hg) | ((with_reducible refine gate_callee (f := 40) rfl ?_); refine goesL_ (some 12) rfl rfl Tryz.func40 (by kernel_rfl) rfl #[.string a0] rfl (by (try simp only [List.map_toArray, List.map_cons, List.map_nil]); first | done | rfl | (simp only [List.length_drop, List.length_take]; rfl)) ?_; (with_reducible refine (lex_Scan.calls a0 t159 t160 t161 _ A2.out).mono ?_); rintro e w46 ⟨v162, rfl, ho0, hb⟩; refine ⟨_, rfl, ?_⟩; have n0_ := Aside0.mk (Kd.R_lower ho0 (below_size (by repeat (first | (with_reducible first | exact HB.out | apply below_alloc | apply pw_below_drewN | apply below_drew1 | refine below_set ?_ GE158.out) | exact HB.out)))); have n1_ := Aside0.mk (blk_below (g := gb158) (o := .cells #[.int .i64 0, .int .i64 0, .slice none 0 0, .string (⟨#[]⟩ : ByteArray), .slice none 0 0] 26 (0, 0)) (by (with_reducible repeat (first | refine blk_drewN ?_ _ | refine blk_drew ?_ | refine blk_alloc ?_ _)); exact BK158.out) hb); have n2_ := Aside0.mk (below_step (by repeat (first | (with_reducible first | exact HB.out | apply below_alloc | apply pw_below_drewN | apply below_drew1 | refine below_set ?_ GE158.out) | exact HB.out)) hb); clear BK158; clear HB; have HO163 := n0_; have BK158 := n1_; have HB := n2_; clear n0_ n1_ n2_; (try clear hb); (try clear hb2); (try clear hk); (try clear hi); (try clear ho0); have hcz47_0 : w46.cell? ⟨gb158, 0, none⟩ = some (.int .i64 0) := (blk_cell BK158.out 0).trans rfl; have hcz47_1 : w46.cell? ⟨gb158, 1, none⟩ = some (.int .i64 0) := (blk_cell BK158.out 1).trans rfl; have hcz47_2 : w46.cell? ⟨gb158, 2, none⟩ = some (.slice none 0 0) := (blk_cell BK158.out 2).trans rfl; have hcz47_3 : w46.cell? ⟨gb158, 3, none⟩ = some (.string (⟨#[]⟩ : ByteArray)) := (blk_cell BK158.out 3).trans rfl; have hcz47_4 : w46.cell? ⟨gb158, 4, none⟩ = some (.slice none 0 0) := (blk_cell BK158.out 4).trans rfl; have hfz47_0 := blk_frozen BK158.out 0; have hfz47_1 := blk_frozen BK158.out 1; have hfz47_2 := blk_frozen BK158.out 2; have hfz47_3 := blk_frozen BK158.out 3; have hfz47_4 := blk_frozen BK158.out 4))
  refine bodyPost_ret (results_ctt rfl _ _ gb158 26 #[.int .i64 0, .int .i64 0, .slice none 0 0, .string (⟨#[]⟩ : ByteArray), .slice none 0 0] (0, 0) _ rfl (by (with_reducible repeat (first | refine blk_drewN ?_ _ | refine blk_drew ?_ | refine blk_alloc ?_ _)); refine blk_put (cs := #[.int .i64 0, .int .i64 0, .slice none 0 0, .string (⟨#[]⟩ : ByteArray), .slice none 0 0]) ?_ 4 _ rfl; (with_reducible repeat (first | refine blk_drewN ?_ _ | refine blk_drew ?_ | refine blk_alloc ?_ _)); refine blk_put (cs := #[.int .i64 0, .int .i64 0, .slice none 0 0, .string (⟨#[]⟩ : ByteArray), .slice none 0 0]) ?_ 3 _ rfl; (with_reducible repeat (first | refine blk_drewN ?_ _ | refine blk_drew ?_ | refine blk_alloc ?_ _)); refine blk_put (cs := #[.int .i64 0, .int .i64 0, .slice none 0 0, .string (⟨#[]⟩ : ByteArray), .slice none 0 0]) ?_ 2 _ rfl; (with_reducible repeat (first | refine blk_drewN ?_ _ | refine blk_drew ?_ | refine blk_alloc ?_ _)); refine blk_put (cs := #[.int .i64 0, .int .i64 0, .slice none 0 0, .string (⟨#[]⟩ : ByteArray), .slice none 0 0]) ?_ 1 _ rfl; (with_reducible repeat (first | refine blk_drewN ?_ _ | refine blk_drew ?_ | refine blk_alloc ?_ _)); refine blk_put (cs := #[.int .i64 0, .int .i64 0, .slice none 0 0, .string (⟨#[]⟩ : ByteArray), .slice none 0 0]) ?_ 0 _ rfl; (with_reducible repeat (first | refine blk_drewN ?_ _ | refine blk_drew ?_ | refine blk_alloc ?_ _)); exact BK158.out) Tryz.underlying26 rfl (by kernel_rfl)) rfl ?_
  exact ⟨_, _, by first | rfl | (simp [errW_none, errW_some] <;> rfl) | (simp [*, errW_none, errW_some] <;> rfl), by first | exact Kd.R_nil _ _ _ _ _ | exact Kd.N_nil _ _ _ _ _ | exact Kd.V_nil _ _ _ _ _ | exact Kd.Q_nil _ _ _ _ _ | exact Kd.S_nil _ _ _ _ _, by first | exact Kd.R_nil _ _ _ _ _ | exact Kd.N_nil _ _ _ _ _ | exact Kd.V_nil _ _ _ _ _ | exact Kd.Q_nil _ _ _ _ _ | exact Kd.S_nil _ _ _ _ _, by repeat (first | (with_reducible first | exact HB.out | apply below_alloc | apply pw_below_drewN | apply below_drew1 | refine below_set ?_ GE158.out) | exact HB.out)⟩

end Go.Proofs.YtfinjenkgpndlaaGreatDoor.PA

namespace Go.Proofs.YtfinjenkgpndlaaGreatDoor.PA
open Go.RowKit Go.Shelf Go.Proofs.YtfinjenkgpndlaaGreatDoorW.PrintWords Go.Proofs.YtfinjenkgpndlaaGreatDoorW.PrintLast Go.Proofs.YtfinjenkgpndlaaGreatDoorW.PrintMore
attribute [local go_sem] Oper.semAt_some
set_option linter.unusedVariables false
set_option linter.unusedSimpArgs false

def knownK : Nd := ⟨1, 0, [⟨97, 97⟩], ⟨#[]⟩, []⟩
def knownN : Nd := ⟨6, 0, [], ⟨#[]⟩, [knownK]⟩
set_option maxRecDepth 100000 in
theorem known_parse : regex_Parse.f 30 ⟨#[39, 97, 42]⟩ = some (6, 0, [], ⟨#[]⟩, [knownK], 0, 0) := by kernel_rfl
set_option maxRecDepth 100000 in
theorem known_ends : match_Ends.f 6 0 [] ⟨#[]⟩ [knownK] [97, 97, 98] 0 = some [0, 1, 2] := by kernel_rfl
set_option maxRecDepth 100000 in
theorem known_all0 : match_All.f 30 6 0 [] ⟨#[]⟩ [knownK] [] = some true := by kernel_rfl
set_option maxRecDepth 100000 in
theorem known_all1 : match_All.f 30 6 0 [] ⟨#[]⟩ [knownK] [98] = some false := by kernel_rfl
set_option maxRecDepth 100000 in
theorem known_null : match_Null.f 30 6 0 [] ⟨#[]⟩ [knownK] = some true := by kernel_rfl
set_option maxRecDepth 100000 in
theorem known_begins : match_Begins.f 6 0 [] ⟨#[]⟩ [knownK] [97, 97] 2 = some [0, 1, 2] := by kernel_rfl
theorem lit_row (w : World) (xs : List Int) (hl : xs.length < 1000) : Kd.C (Kd.int .i32) (w.alloc (.cells (nums .i32 xs).toArray 21)) (some ⟨w.heap.size, 0, none⟩) xs.length xs := by
  have hr : Reps (Kd.M (Kd.int .i32) w w.heap.size (fun _ => True)) 1 xs (nums .i32 xs) := by
    refine ⟨by simp [nums], fun j p hj => ?_⟩
    show ((nums .i32 xs).drop (j * 1)).take 1 = [.int .i32 p]
    obtain ⟨h1, h2⟩ := List.getElem?_eq_some_iff.1 hj
    rw [Nat.mul_one, nums, List.drop_eq_getElem_cons (by simpa using h1)]
    simp [h2]
  have h := fresh_R (d := Kd.int .i32) (e := 21) (W := w) (base := w.heap.size) hr (Nat.le_refl _) (by omega)
  obtain ⟨A, c, e, _, hC⟩ := Kd.R_reads h
  cases e
  exact hC
theorem box_at {w w1 : World} {b : Nat} {o : Obj} (h : w.heap[b]? = some o) (hb : Below w.heap.size w w1) : w1.heap[b]? = some o := (hb.block _ (Array.getElem?_eq_some_iff.1 h).1).trans h
set_option maxRecDepth 100000 in
set_option maxHeartbeats 8000000 in
theorem known_calls (w : World) : Calls Tryz.prog 23 #[] w fun e w' => e = .returned (.bool true) ∧ Below w.heap.size w w' := by
  have HP := Lib.hid (regex_Parse.calls 30 ⟨#[39, 97, 42]⟩ _ _ _ _ _ _ _ w known_parse)
  go_enter Tryz.func23, Tryz.ntmps23
  go_wp2_with fail
  refine HP.out.mono ?_
  rintro e' w1 ⟨v2, v4, rfl, hR2, hR4, hb1⟩
  obtain ⟨A2, c2, rfl, hl2, hC2⟩ := Kd.R_reads hR2
  obtain ⟨A4, c4, rfl, hl4, hC4⟩ := Kd.R_reads hR4
  have hN : NdAt w1 A2 A4 c2 c4 knownN := ⟨hl2, hl4, hC2, hC4⟩
  obtain ⟨w2, q2⟩ : ∃ w2, w1.alloc (.cells #[.int .i64 6, .int .i64 0, .slice A2 0 c2, .string ⟨#[]⟩, .slice A4 1 c4] 26) = w2 := ⟨_, rfl⟩
  have b2 : Below w1.heap.size w1 w2 := by rw [← q2]; exact (Below.refl _ w1).alloc (Nat.le_refl _) _
  have m2 : w2.heap[w1.heap.size]? = some (.cells #[.int .i64 6, .int .i64 0, .slice A2 0 c2, .string ⟨#[]⟩, .slice A4 1 c4] 26 (0, 0)) := by rw [← q2]; exact heap_alloc_new w1 _
  have d20 := (blk_cell m2 0).trans rfl
  have d21 := (blk_cell m2 1).trans rfl
  have d22 := (blk_cell m2 2).trans rfl
  have d23 := (blk_cell m2 3).trans rfl
  have d24 := (blk_cell m2 4).trans rfl
  obtain ⟨w3, q3⟩ : ∃ w3, w2.alloc (.cells #[.int .i32 97, .int .i32 97, .int .i32 98] 21) = w3 := ⟨_, rfl⟩
  have b3 : Below w2.heap.size w2 w3 := by rw [← q3]; exact (Below.refl _ w2).alloc (Nat.le_refl _) _
  have r3 : Kd.C (Kd.int .i32) w3 (some ⟨w2.heap.size, 0, none⟩) 3 [97, 97, 98] := by rw [← q3]; exact lit_row w2 [97, 97, 98] (by decide)
  have B3 : Below w1.heap.size w1 w3 := below_t b2 b3
  have N3 := hN.below B3
  have m3 := box_at m2 b3
  have HE := Lib.hid (match_Ends.calls 6 0 A2 c2 [] ⟨#[]⟩ A4 c4 [knownK] (some ⟨w2.heap.size, 0, none⟩) 3 [97, 97, 98] 0 _ w3 N3.C2 N3.l2 N3.C4 N3.l4 r3 (Nat.le_refl _) known_ends)
  have HX3 := Lib.hid (And.intro hN (And.intro B3 (And.intro m3 hb1)))
  clear hR2 hR4 hb1 hC2 hC4 hl2 hl4 hN b2 m2 b3 r3 B3 N3 m3 HP
  go_wp2_with fail
  refine HE.out.mono ?_
  rintro e' w4 ⟨v, rfl, hR, hb4⟩
  obtain ⟨A, c, rfl, hlc, hC⟩ := Kd.R_reads hR
  obtain ⟨g, o, rfl, _⟩ := C_plain hC (by decide) (by decide)
  obtain ⟨cs0, _, hK0, hc0⟩ := C_cell hC (j := 0) (p := 0) rfl
  obtain rfl : cs0 = [.int .i64 0] := hK0
  have g0 : w4.cell? ⟨g, o, none⟩ = some (.int .i64 0) := hc0 0 _ rfl
  obtain ⟨cs2, _, hK2, hc2⟩ := C_cell hC (j := 2) (p := 2) rfl
  obtain rfl : cs2 = [.int .i64 2] := hK2
  have g2 : w4.cell? ⟨g, o + 2, none⟩ = some (.int .i64 2) := hc2 0 _ rfl
  have B4 : Below w1.heap.size w1 w4 := below_t HX3.out.2.1 hb4
  have N4 := HX3.out.1.below B4
  have m4 := box_at HX3.out.2.2.1 hb4
  have d40 := (blk_cell m4 0).trans rfl
  have d41 := (blk_cell m4 1).trans rfl
  have d42 := (blk_cell m4 2).trans rfl
  have d43 := (blk_cell m4 3).trans rfl
  have d44 := (blk_cell m4 4).trans rfl
  have H5 := Lib.hid (match_All.calls 30 6 0 A2 c2 [] ⟨#[]⟩ A4 c4 [knownK] none 0 [] _ w4 N4.C2 N4.l2 N4.C4 N4.l4 ⟨rfl, by decide, fun h => absurd h (by decide)⟩ (Nat.le_refl _) known_all0)
  have HX4 := Lib.hid (And.intro B4 m4)
  clear hR hb4 hC hlc hc0 hc2 B4 N4 m4 HE q2 q3 d20 d21 d22 d23 d24
  go_wp2_with fail
  refine H5.out.mono ?_
  rintro e' w5 ⟨rfl, hb5⟩
  have B5 := below_t HX4.out.1 hb5
  have m5 := box_at HX4.out.2 hb5
  have d50 := (blk_cell m5 0).trans rfl
  have d51 := (blk_cell m5 1).trans rfl
  have d52 := (blk_cell m5 2).trans rfl
  have d53 := (blk_cell m5 3).trans rfl
  have d54 := (blk_cell m5 4).trans rfl
  obtain ⟨w6, q6⟩ : ∃ w6, w5.alloc (.cells #[.int .i32 98] 21) = w6 := ⟨_, rfl⟩
  have b6 : Below w5.heap.size w5 w6 := by rw [← q6]; exact (Below.refl _ w5).alloc (Nat.le_refl _) _
  have r6 : Kd.C (Kd.int .i32) w6 (some ⟨w5.heap.size, 0, none⟩) 1 [98] := by rw [← q6]; exact lit_row w5 [98] (by decide)
  have B6 := below_t B5 b6
  have N6 := HX3.out.1.below B6
  have H7 := Lib.hid (match_All.calls 30 6 0 A2 c2 [] ⟨#[]⟩ A4 c4 [knownK] (some ⟨w5.heap.size, 0, none⟩) 1 [98] _ w6 N6.C2 N6.l2 N6.C4 N6.l4 r6 (Nat.le_refl _) known_all1)
  have HX6 := Lib.hid (And.intro B6 (box_at m5 b6))
  clear hb5 B5 m5 b6 r6 B6 N6 H5 g0 g2 d40 d41 d42 d43 d44
  go_wp2_with fail
  refine H7.out.mono ?_
  rintro e' w7 ⟨rfl, hb7⟩
  have B7 := below_t HX6.out.1 hb7
  have m7 := box_at HX6.out.2 hb7
  have d70 := (blk_cell m7 0).trans rfl
  have d71 := (blk_cell m7 1).trans rfl
  have d72 := (blk_cell m7 2).trans rfl
  have d73 := (blk_cell m7 3).trans rfl
  have d74 := (blk_cell m7 4).trans rfl
  have N7 := HX3.out.1.below B7
  have H8 := Lib.hid (match_Null.calls 30 6 0 A2 c2 [] ⟨#[]⟩ A4 c4 [knownK] _ w7 N7.C2 N7.l2 N7.C4 N7.l4 known_null)
  have HX7 := Lib.hid (And.intro B7 m7)
  clear hb7 B7 m7 N7 H7 q6 d50 d51 d52 d53 d54
  go_wp2_with fail
  refine H8.out.mono ?_
  rintro e' w8 ⟨rfl, hb8⟩
  have B8 := below_t HX7.out.1 hb8
  have m8 := box_at HX7.out.2 hb8
  have d80 := (blk_cell m8 0).trans rfl
  have d81 := (blk_cell m8 1).trans rfl
  have d82 := (blk_cell m8 2).trans rfl
  have d83 := (blk_cell m8 3).trans rfl
  have d84 := (blk_cell m8 4).trans rfl
  obtain ⟨w9, q9⟩ : ∃ w9, w8.alloc (.cells #[.int .i32 97, .int .i32 97] 21) = w9 := ⟨_, rfl⟩
  have b9 : Below w8.heap.size w8 w9 := by rw [← q9]; exact (Below.refl _ w8).alloc (Nat.le_refl _) _
  have r9 : Kd.C (Kd.int .i32) w9 (some ⟨w8.heap.size, 0, none⟩) 2 [97, 97] := by rw [← q9]; exact lit_row w8 [97, 97] (by decide)
  have B9 := below_t B8 b9
  have N9 := HX3.out.1.below B9
  have H10 := Lib.hid (match_Begins.calls 6 0 A2 c2 [] ⟨#[]⟩ A4 c4 [knownK] (some ⟨w8.heap.size, 0, none⟩) 2 [97, 97] 2 _ w9 N9.C2 N9.l2 N9.C4 N9.l4 r9 (Nat.le_refl _) known_begins)
  have HX9 := Lib.hid B9
  clear hb8 B8 m8 b9 r9 B9 N9 H8 d70 d71 d72 d73 d74
  go_wp2_with fail
  refine H10.out.mono ?_
  rintro e' w10 ⟨v, rfl, hR, hb10⟩
  obtain ⟨A, c, rfl, _, _⟩ := Kd.R_reads hR
  have HX10 := Lib.hid hb10
  clear hR hb10 H10 q9 d80 d81 d82 d83 d84
  go_wp2
  go_ret
  exact ⟨rfl, below_t HX3.out.2.2.2 (below_t HX9.out HX10.out)⟩
def hornbooklaw8_known.f : Option Bool := some true
theorem hornbooklaw8_known.calls (r : Bool) (w : World) (h : hornbooklaw8_known.f = some r) : Calls Tryz.prog 23 #[] w fun e w' => e = .returned (.bool r) ∧ Below w.heap.size w w' := by
  obtain rfl := Option.some.inj h
  exact known_calls w
end Go.Proofs.YtfinjenkgpndlaaGreatDoor.PA

