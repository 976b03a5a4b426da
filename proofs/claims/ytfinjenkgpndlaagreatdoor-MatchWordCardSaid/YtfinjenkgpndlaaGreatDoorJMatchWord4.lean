/- The tied card of MatchWord: for each input that the row speaks of the law's function returns true, and its arguments read as they read before; the conditions are the row's own. Part 4 of 6. -/
import Derived.Test.YtfinjenkgpndlaaGreatDoorJMatchWord3
import Derived.Lib.SliceRun
import Derived.Shelf.SlicesQ.IndexFunc
import Derived.Ground.SlgfProg
import Derived.Test.YtfinjenkgpndlaaGreatDoorProg
import Derived.Deep.RegionHeld3
import Derived.BigQuiet
import Derived.StillTailTactics
import Derived.IntWalk
import Derived.Shelf.SortM.Plain
import Derived.Shelf.SortM.SortNone
import Derived.Ground.SlgmProg
namespace Go.Proofs.YtfinjenkgpndlaaGreatDoor.PA
open Go.RowKit Go.Shelf Go.Proofs.YtfinjenkgpndlaaGreatDoorW.PrintWords Go.Proofs.YtfinjenkgpndlaaGreatDoorW.PrintLast Go.Proofs.YtfinjenkgpndlaaGreatDoorW.PrintMore
attribute [local go_sem] Oper.semAt_some
set_option linter.unusedVariables false
set_option linter.unusedSimpArgs false

set_option maxRecDepth 100000 in
set_option maxHeartbeats 2000000 in
theorem clone_calls (b off c : Nat) (bs : List Bool) (hl : bs.length < 1000000000) (w : World) (hC : Kd.C Kd.bool w (some ⟨b, off, none⟩) bs.length bs) :
    Calls Tryz.prog 133 #[.slice (some ⟨b, off, none⟩) bs.length c] w fun e w' => ∃ v, e = .returned v ∧ Kd.R Kd.bool 4 w' w.heap.size (fun _ => True) v bs ∧ Below w.heap.size w w' := by
  have HC := Lib.hid hC
  clear hC
  go_enter Tryz.func133, Tryz.ntmps133
  have hbe : ∀ w, (binOp .eql 123 (.slice (some ⟨b, off, none⟩) bs.length c) (.slice none 0 0)).run Tryz.prog w = .ok (.bool false) w := fun w => Lib.run_eql_slice_nil w _ _ _ _ _ _ _ Tryz.underlying123
  obtain ⟨w1, hw1⟩ : ∃ w1, w.alloc (.cells #[] 4) = w1 := ⟨_, rfl⟩
  have hb1 : Below w.heap.size w w1 := by rw [← hw1]; exact (Below.refl _ w).alloc (Nat.le_refl _) _
  have hR1 : Kd.R Kd.bool 4 w1 w.heap.size (fun _ => True) (.slice (some ⟨w.heap.size, 0, none⟩) 0 0) ([] : List Bool) := by
    rw [← hw1]; exact fresh_R (d := Kd.bool) (okp := fun _ => True) (xs := []) (inner := []) (Reps.none _ _) (Nat.le_refl _) (by simp)
  have HR1 := Lib.hid hR1
  have HB1 := Lib.hid hb1
  have HC1 := Lib.hid (Kd.C_below HC.out hb1)
  have hs1 := hb1.size
  clear hR1 hb1
  go_wp2_with (first | rw [hbe] | ((with_reducible refine gate_builtin (b := .append) (xs := #[.tmp 5, .tmp 6]) rfl ?_); refine Kd.R_append_rows Kd.bool (w0 := w) w.heap.size rfl (.tmp 5) (.tmp 6) 123 4 (.bool false) 1 rfl Tryz.underlying123 info4 rfl Nat.one_pos (by decide) (.slice (some ⟨w.heap.size, 0, none⟩) 0 0) [] bs (some ⟨b, off, none⟩) bs.length c (fun _ => True) (fun _ => False) rfl rfl HR1.out HC1.out (fun x cs h => h) (fun _ hk => hk.elim) (fun _ _ => trivial) HB1.out hs1 ?aL ?_; (case aL => simp; omega); intro v1 w9 ho hb9 hg hat; rw [List.nil_append] at ho; obtain ⟨A9, c9, e9⟩ := Kd.R_slice ho; subst e9; have H9 := Lib.hid (And.intro ho hb9); clear ho hb9 hg hat))
  go_ret
  exact ⟨_, rfl, H9.out.1, H9.out.2⟩
theorem kp_blk {T : List Nat} {B b : Nat} {W A C : World} (hb : b < B) (k : KpT T B A C) (e : A.heap[b]? = W.heap[b]?) (hlt : b < W.heap.size) : C.heap[b]? = W.heap[b]? := by
  rw [Array.getElem?_eq_getElem hlt] at e ⊢
  exact k.same b _ e (.inl hb)
theorem places_range (bs : List Bool) : placesL bs = (List.range' 0 bs.length).filter fun i => bs.getD i false := by
  unfold placesL; rw [List.range_eq_range']
set_option maxRecDepth 100000 in
set_option maxHeartbeats 4000000 in
theorem spots_iter (T : List Nat) (B Bx b off c : Nat) (bs : List Bool) (hb : b < B) (hl : bs.length < 1000000000) (W : World) (hS : W.heap[Bx]? = some (.cells #[.slice (some ⟨b, off, none⟩) bs.length c] 123 (0, 0))) (hC : Kd.C Kd.bool W (some ⟨b, off, none⟩) bs.length bs) :
    Iter T Tryz.prog B 108 #[.pointer (some ⟨Bx, 0, none⟩)] (fun i : Nat => #[Value.int .i64 i]) (placesL bs) W := by
  intro l J Jx hJ hJx hY h0 n
  have hu3 := Tryz.underlying123
  have e0 := (blk_cell hS 0).trans rfl
  refine callsIn_depth (n := 5) ?_
  refine callsIn_of_wp Tryz.func108 rfl trivial ?_ rfl
  simp only [Tryz.ntmps108, List.size_toArray, List.length_cons, List.length_nil, Nat.reduceAdd, Nat.reduceSub, Array.replicate_succ, Array.replicate_zero, List.push_toArray, List.append_toArray, List.nil_append, List.cons_append]
  have hx := places_range bs
  generalize placesL bs = xs at *
  have HS := Lib.hid hS
  have HC := Lib.hid hC
  have HY := Lib.hid hY
  have HJ0 := Lib.hid h0
  have HX := Lib.hid hx
  clear hS hY h0 hx hJ hJx hC
  gi_wp2
  gi_loopw [7] (fun i wr => ∃ (p k : Nat), i = .int .i64 p ∧ p ≤ bs.length ∧ k ≤ xs.length ∧ Hid (xs.drop k = (List.range' p (bs.length - p)).filter fun i => bs.getD i false) ∧ Hid (J k wr) ∧ Hid (wr.heap[b]? = W.heap[b]?)) (fun i _ => ((bs.length : Int) - intOf i).toNat)
  case atStart => exact ⟨0, 0, rfl, Nat.zero_le _, Nat.zero_le _, Lib.hid (by rw [List.drop_zero]; exact HX.out), HJ0, Lib.hid rfl⟩
  case round =>
    clear HJ0 HX e0
    obtain ⟨p, k, rfl, hp, hk, hd, hJs, hbk⟩ := hrel
    by_cases hlt : p < bs.length
    · have hpp : bs[p]? = some bs[p] := List.getElem?_eq_getElem hlt
      obtain ⟨cs, hcl, hK, hcc⟩ := C_cell HC.out hpp
      obtain rfl : cs = [.bool bs[p]] := hK
      have hdd := hd.out
      obtain ⟨q, hq⟩ : ∃ q, bs.length - p = q + 1 := ⟨bs.length - p - 1, by omega⟩
      rw [hq, List.range'_succ, List.filter_cons] at hdd
      have hg : bs.getD p false = bs[p] := by rw [List.getD_eq_getElem?_getD, hpp]; rfl
      rw [hg] at hdd
      have d0 : wr.cell? ⟨b, off + p, none⟩ = some (.bool bs[p]) := by
        have h : W.cell? ⟨b, off + p * 1 + 0, none⟩ = some (.bool bs[p]) := hcc 0 _ rfl
        have hbb : wr.heap[b]? = W.heap[b]? := hbk.out
        rw [Nat.mul_one, Nat.add_zero] at h
        exact (World.cell?_of_block (a := ⟨b, off + p, none⟩) hbb).trans h
      have hq' : bs.length - (p + 1) = q := by omega
      rw [← hq'] at hdd
      generalize bs[p] = bp at *
      have HDD := Lib.hid hdd
      clear hcc hcl hpp hg hdd hq hq'
      cases bp with
      | true =>
        have hdd := HDD.out
        rw [if_pos rfl] at hdd
        have hx1 : xs[k]? = some p := by
          have := congrArg (fun l : List Nat => l[0]?) hdd
          simpa [List.getElem?_drop] using this
        have hd1 : xs.drop (k + 1) = (List.range' (p + 1) (bs.length - (p + 1))).filter fun i => bs.getD i false := by
          have := congrArg List.tail hdd
          simpa using this
        have hk1 : k + 1 ≤ xs.length := (List.getElem?_eq_some_iff.1 hx1).1
        have hy := HY.out k p wr hx1 hJs.out (5 - 1)
        obtain ⟨fn, tmps, assign, body, hy, hR⟩ := hy
        have HR := Lib.hid hR
        have HD1 := Lib.hid hd1
        have HBK := Lib.hid (show b < W.heap.size by obtain ⟨b', o', e', h'⟩ := C_plain HC.out (by omega) (by decide); cases e'; exact h')
        clear hR hdd hx1 hd1 hd
        gi_wp2
        refine (roundIn_depth HR.out).mono ?_
        rintro e' W3 (⟨rfl, hJ3, hk3⟩ | ⟨rfl, hJx3, _⟩)
        · have HJ3 := Lib.hid hJ3
          have HB3 := Lib.hid (kp_blk hb hk3 hbk.out HBK.out)
          clear hJ3 hk3 HR hy d0 hbk hJs
          gi_wp2
          refine ⟨⟨p + 1, k + 1, by first | rfl | (congr 1; omega), by omega, hk1, HD1, HJ3, HB3⟩, by simp [intOf] <;> omega⟩
        · have HJ3 := Lib.hid hJx3
          clear hJx3 HR hy d0 hbk hJs
          gi_wp2
          refine bodyPost_ret (results_none rfl _ _ _) rfl ?_
          exact ⟨⟨_, rfl⟩, .inr HJ3.out⟩
      | false =>
        have hdd := HDD.out
        rw [if_neg (by decide)] at hdd
        have HD1 := Lib.hid hdd
        clear hdd hd
        gi_wp2_with fail
        refine ⟨fun _ h => (by simp at h), ?_⟩
        gi_wp2
        refine ⟨⟨p + 1, k, by first | rfl | (congr 1; omega), by omega, hk, HD1, hJs, hbk⟩, by simp [intOf] <;> omega⟩
    · obtain rfl : p = bs.length := by omega
      have hk' := Lib.hid (show k = xs.length by
        have h := hd.out
        rw [Nat.sub_self] at h
        have := List.drop_eq_nil_iff.1 (h.trans rfl); omega)
      gi_wp2
      go_end0
      exact ⟨⟨_, rfl⟩, .inl (hk'.out ▸ hJs.out)⟩
theorem spots_all_calls (v : Value) (w : World) (b off n c : Nat) (hv : v = .slice (some ⟨b, off, none⟩) n c) : Calls Tryz.prog 80 #[v] w fun e w' => e = .returned (.func (.func 108) #[] #[.pointer (some ⟨w.heap.size, 0, none⟩)]) ∧ w' = w.alloc (.cells #[v] 123) := by
  subst hv
  go_enter Tryz.func80, Tryz.ntmps80
  go_wp2
  go_ret
  exact ⟨rfl, rfl⟩
theorem boolrow {W : World} {base : Nat} {v : Value} {bs : List Bool} (h : Kd.R Kd.bool 4 W base (fun _ => True) v bs) (hn : 0 < bs.length) : ∃ g c, v = .slice (some ⟨g, 0, none⟩) bs.length c ∧ bs.length ≤ c ∧ base ≤ g ∧ (∃ cur, W.heap[g]? = some (.cells cur 4 (0, 0))) ∧ Kd.C Kd.bool W (some ⟨g, 0, none⟩) bs.length bs := by
  obtain ⟨A, c, rfl, hc, hC⟩ := Kd.R_reads h
  obtain ⟨inner, hown⟩ := Kd.R_own h
  obtain ⟨g, cap, e, hb, _⟩ := hown.form hn
  cases e
  obtain ⟨cur, hcur⟩ := own_typed hown g rfl
  exact ⟨g, c, rfl, hc, hb, ⟨cur, hcur⟩, hC⟩
theorem mark_row {W : World} {base g n c : Nat} {m : List Bool} (h : Kd.R Kd.bool 4 W base (fun _ => True) (.slice (some ⟨g, 0, none⟩) n c) m) (hb : base ≤ g) (j : Nat) (hj : j < m.length) :
    (∃ u, W.cell? ⟨g, j, none⟩ = some u) ∧ W.frozen? ⟨g, j, none⟩ = false ∧ Kd.R Kd.bool 4 (W.setCell ⟨g, j, none⟩ (.bool true)) base (fun _ => True) (.slice (some ⟨g, 0, none⟩) n c) (m.set j true) ∧ (∀ B, B ≤ g → Below B W (W.setCell ⟨g, j, none⟩ (.bool true))) ∧ (∀ B, B ≤ g → KpT [4] B W (W.setCell ⟨g, j, none⟩ (.bool true))) := by
  obtain ⟨inner, hown⟩ := Kd.R_own h
  obtain ⟨cur, hcur⟩ := own_typed hown g rfl
  obtain ⟨cs, hl, hK, hc⟩ := R_cells h (List.getElem?_eq_getElem hj)
  obtain rfl : cs = [.bool m[j]] := hK
  have h0 : W.cell? ⟨g, j * 1 + 0, none⟩ = some (.bool m[j]) := hc 0 _ rfl
  rw [Nat.mul_one, Nat.add_zero] at h0
  have hp : (Kd.scalar Value.bool (fun _ => rfl)).R 4 (W.setCell ⟨g, (j : Int).toNat, none⟩ (.bool true)) base (fun _ => True) (.slice (some ⟨g, 0, none⟩) n c) (m.set (j : Int).toNat true) := Kd.R_putn h (j : Int) true
  rw [Int.toNat_natCast] at hp
  refine ⟨⟨_, h0⟩, blk_frozen hcur j, hp, fun B hB => (Below.refl _ W).setCell (p := ⟨g, j, none⟩) hB _, fun B hB => ⟨by simp, fun k o hk ho => ?_⟩⟩
  by_cases e : k = g
  · subst e
    rw [hcur] at hk; cases hk
    rcases ho with ho | ho
    · omega
    · simp [rowishT] at ho
  · exact (Below.heap_setCell W ⟨g, j, none⟩ _ k e).trans hk
structure MkAt (w : World) (bo g c n : Nat) (m : List Bool) (W : World) : Prop where
  box : W.heap[bo]? = some (.cells #[.slice (some ⟨g, 0, none⟩) n c] 123 (0, 0))
  row : Kd.R Kd.bool 4 W w.heap.size (fun _ => True) (.slice (some ⟨g, 0, none⟩) n c) m
  below : Below w.heap.size w W
  size : bo + 2 ≤ W.heap.size
theorem MkAt.turn {w A C : World} {bo g c n B : Nat} {m : List Bool} (h : MkAt w bo g c n m A) (ht : TurnFrom B A C) (hB : w.heap.size ≤ B) : MkAt w bo g c n m C :=
  ⟨ht.same _ _ h.box (.inr rfl), ht.R h.row, ht.below h.below hB, Nat.le_trans h.size ht.size⟩
theorem MkAt.mark {w W : World} {bo g c n j : Nat} {m : List Bool} (h : MkAt w bo g c n m W) (hg : w.heap.size ≤ g) (hj : j < m.length) : MkAt w bo g c n (m.set j true) (W.setCell ⟨g, j, none⟩ (.bool true)) := by
  obtain ⟨_, _, h3, h4, h5⟩ := mark_row h.row hg j hj
  exact ⟨(h5 w.heap.size hg).same _ _ h.box (.inr rfl), h3, h.below.trans (h4 _ hg), by simpa using h.size⟩
theorem take_snoc {α : Type} {xs : List α} {i : Nat} {x : α} (h : xs[i]? = some x) : xs.take (i + 1) = xs.take i ++ [x] := by
  obtain ⟨hi, hxe⟩ := List.getElem?_eq_some_iff.1 h
  rw [List.take_succ_eq_append_getElem hi, hxe]
set_option maxRecDepth 100000 in
set_option maxHeartbeats 4000000 in
theorem or_calls (xa oa ca xb ob cb : Nat) (us bs : List Bool) (hl : us.length = bs.length) (h0 : 0 < us.length) (hlt : us.length < 1000000000) (w : World) (hA : Kd.C Kd.bool w (some ⟨xa, oa, none⟩) us.length us) (hB : Kd.C Kd.bool w (some ⟨xb, ob, none⟩) bs.length bs) :
    Calls Tryz.prog 106 #[.slice (some ⟨xa, oa, none⟩) us.length ca, .slice (some ⟨xb, ob, none⟩) bs.length cb] w fun e w' => ∃ v, e = .returned v ∧ Kd.R Kd.bool 4 w' w.heap.size (fun _ => True) v (orL us bs) ∧ Below w.heap.size w w' := by
  refine callsIn_wide (n := 5) |>.1 ?_
  refine callsIn_of_wp_marks Tryz.func106 rfl trivial ?_ rfl
  simp only [Tryz.ntmps106, List.size_toArray, List.length_cons, List.length_nil, Nat.reduceAdd, Nat.reduceSub, Array.replicate_succ, Array.replicate_zero, List.push_toArray, List.append_toArray, List.nil_append, List.cons_append]
  have HCl := Lib.hid (callsIn_wide (n := 5 - 1) |>.2 (clone_calls xa oa ca us hlt w hA))
  have HAll := Lib.hid (fun W => callsIn_wide (n := 5 - 1) |>.2 (spots_all_calls (.slice (some ⟨xb, ob, none⟩) bs.length cb) W xb ob bs.length cb rfl))
  have HBC := Lib.hid hB
  have HL := Lib.hid hl
  have hlb : bs.length < 1000000000 := by omega
  clear hA hB hl
  gi_wp2_with fail
  refine ⟨trivial, ?_⟩
  gi_at_call 133
  refine HCl.out.mono ?_
  rintro e' wc ⟨v, rfl, hR, hb⟩
  obtain ⟨g, c, rfl, hcc, hg, _, _⟩ := boolrow hR h0
  have HR := Lib.hid hR
  have HB := Lib.hid hb
  clear hR hb HCl
  gi_wp2_with fail
  refine ⟨trivial, ?_⟩
  gi_at_call 80
  refine (HAll.out _).mono ?_
  rintro e' w2 ⟨rfl, rfl⟩
  gi_wp2
  obtain ⟨a1, e1⟩ : ∃ a1, wc.alloc (.cells #[.slice (some ⟨g, 0, none⟩) us.length c] 123) = a1 := ⟨_, rfl⟩
  obtain ⟨w2, e2⟩ : ∃ w2, a1.alloc (.cells #[.slice (some ⟨xb, ob, none⟩) bs.length cb] 123) = w2 := ⟨_, rfl⟩
  rw [e1, e2]
  have s1 : a1.heap.size = wc.heap.size + 1 := by rw [← e1]; simp
  have s2 : w2.heap.size = wc.heap.size + 2 := by rw [← e2]; simp [s1]
  have b1 : Below wc.heap.size wc a1 := by rw [← e1]; exact (Below.refl _ wc).alloc (Nat.le_refl _) _
  have n1 : a1.heap[wc.heap.size]? = some (.cells #[.slice (some ⟨g, 0, none⟩) us.length c] 123 (0, 0)) := by rw [← e1]; exact heap_alloc_new wc _
  have b2 : Below a1.heap.size a1 w2 := by rw [← e2]; exact (Below.refl _ a1).alloc (Nat.le_refl _) _
  have n2 : w2.heap[wc.heap.size + 1]? = some (.cells #[.slice (some ⟨xb, ob, none⟩) bs.length cb] 123 (0, 0)) := by rw [← e2, ← s1]; exact heap_alloc_new a1 _
  have hwc := HB.out.size
  have hb2 : Below w.heap.size w w2 := HB.out.trans ((b1.mono hwc).trans (b2.mono (by omega)))
  have hM2 : MkAt w wc.heap.size g c us.length us w2 := ⟨(b2.block _ (by omega)).trans n1, Kd.R_below (Kd.R_below HR.out b1) b2, hb2, by omega⟩
  have HM2 := Lib.hid hM2
  have hxb : xb < w.heap.size := by obtain ⟨b', o', e', h'⟩ := C_plain HBC.out (by have := HL.out; omega) (by decide); cases e'; exact h'
  have hIt : ∀ r, Iter [4] Tryz.prog w.heap.size 108 #[.pointer (some ⟨wc.heap.size + 1, 0, none⟩)] (fun i : Nat => #[Value.int .i64 i]) (placesL bs) ((w2.alloc (.deferred (some []))).alloc (.loop r)) := fun r => by
    have hbb : Below w2.heap.size w2 ((w2.alloc (.deferred (some []))).alloc (.loop r)) := ((Below.refl _ w2).alloc (Nat.le_refl _) _).alloc (by simp) _
    exact spots_iter _ _ _ xb ob cb bs hxb hlb _ ((hbb.block _ (by omega)).trans n2) (Kd.C_below (Kd.C_below HBC.out hb2) hbb)
  clear e1 e2 s1 b1 n1 b2 n2 hM2 hb2
  have hmo := marks_or HL.out
  have hpl : ∀ i ∈ placesL bs, i < us.length := fun i hi => by have := on_lt (mem_places.1 hi); have := HL.out; omega
  generalize placesL bs = xs at *
  have HMO := Lib.hid hmo
  have HPL := Lib.hid hpl
  clear hmo hpl
  refine range_turn (T := [4]) (B0 := w.heap.size) (gf := 108) (lb := #[.pointer (some ⟨wc.heap.size + 1, 0, none⟩)]) rfl (enters_of Tryz.func108 (by kernel_rfl) rfl) (fun _ => rfl) hIt
    (fun i W' => MkAt w wc.heap.size g c us.length (marksF some us (xs.take i)) W') (fun _ => False)
    (fun i A C q ht => q.turn ht (by omega)) (fun A C q ht => q) (by rw [List.take_zero]; exact HM2.out)
    (fun x => { tmps := #[.slice (some ⟨xa, oa, none⟩) us.length ca, .slice (some ⟨xb, ob, none⟩) bs.length cb, undef, undef, .slice none 0 0, .pointer (some ⟨wc.heap.size, 0, none⟩), .int .i64 x, .slice (some ⟨xa, oa, none⟩) us.length ca, .slice (some ⟨g, 0, none⟩) us.length c, .slice (some ⟨xb, ob, none⟩) bs.length cb, .func (.func 108) #[] #[.pointer (some ⟨wc.heap.size + 1, 0, none⟩)], .int .i64 x, undef, undef, undef, undef], defers := [] })
    ?assign ?body ?done ?stop
  case assign =>
    intro l' x W' K hK
    gi_wp2
    exact hK
  case body =>
    rintro l' i x W' hx hj
    have hx' := HPL.out x (List.mem_of_getElem? hx)
    have hml : (marksF some us (xs.take i)).length = us.length := marks_len _ _ _
    obtain ⟨⟨u, hu⟩, hf, _, _, hk⟩ := mark_row hj.row hg x (by omega)
    have cb0 : W'.cell? ⟨wc.heap.size, 0, none⟩ = some (.slice (some ⟨g, 0, none⟩) us.length c) := (blk_cell hj.box 0).trans rfl
    have HN := Lib.hid (hj.mark hg (by omega : x < (marksF some us (xs.take i)).length))
    have HK := Lib.hid (hk w.heap.size hg)
    have HX := Lib.hid hx
    clear hx hj hml hk
    gi_wp2
    refine ⟨HK.out, ?_⟩
    show MkAt w wc.heap.size g c us.length (marksF some us (xs.take (i + 1))) _
    rw [take_snoc HX.out, marks_snoc]
    exact HN.out
  case done =>
    rintro D W' hD hj hK
    rw [List.take_length, HMO.out] at hj
    have cb0 : W'.cell? ⟨wc.heap.size, 0, none⟩ = some (.slice (some ⟨g, 0, none⟩) us.length c) := (blk_cell hj.box 0).trans rfl
    have HJ := Lib.hid hj
    have HKD := Lib.hid hK
    clear hj hK
    gi_wp2
    refine ⟨by simp, .inl ⟨_, _, rfl, run_takeDeferred HKD.out, ?_⟩⟩
    have ht : TurnFrom w2.heap.size W' (W'.putObj D (.deferred none)) := TurnFrom.putObj _ hD HKD.out rfl
    exact ⟨_, results_tmp rfl _ _ _, .slice (some ⟨g, 0, none⟩) us.length c, rfl, ht.R HJ.out.row, ht.below HJ.out.below (by omega)⟩
  case stop =>
    rintro D W' hD h hK
    exact h.elim
end Go.Proofs.YtfinjenkgpndlaaGreatDoor.PA

namespace Go.Proofs
open Go.Shelf
def Tryz.containsRg_ren : Go.Shelf.Ren := ⟨fun | 8 => 65 | 6 => 91 | n => n, fun | 22 => 23 | 23 => 58 | 25 => 113 | 4 => 4 | 3 => 3 | 0 => 0 | n => n, fun | n => n⟩
theorem Tryz.containsRg : Go.Proofs.SlLaysH0.n8 Tryz.prog Tryz.containsRg_ren := {
  mixed := by kernel_rfl
  f6 := ⟨Tryz.f91.name, by decide, Tryz.func91.trans (congrArg some (by kernel_rfl))⟩
  f8 := ⟨Tryz.f65.name, by decide, Tryz.func65.trans (congrArg some (by kernel_rfl))⟩
  t0 := Tryz.underlying0
  a0 := Tryz.isAgg0
  z0 := Tryz.sizeOf0
  v0 := Tryz.zeroValue0
  t3 := Tryz.underlying3
  a3 := Tryz.isAgg3
  z3 := Tryz.sizeOf3
  v3 := Tryz.zeroValue3
  t4 := Tryz.underlying4
  a4 := Tryz.isAgg4
  z4 := Tryz.sizeOf4
  v4 := Tryz.zeroValue4
  t22 := Tryz.underlying23
  a22 := Tryz.isAgg23
  z22 := Tryz.sizeOf23
  v22 := Tryz.zeroValue23
  t25 := Tryz.underlying113
  a25 := Tryz.isAgg113
  z25 := Tryz.sizeOf113
  v25 := Tryz.zeroValue113 }
end Go.Proofs

namespace Go.Proofs.YtfinjenkgpndlaaGreatDoor.PA
open Go.RowKit Go.Proofs.YtfinjenkgpndlaaGreatDoorW.PrintWords Go.Proofs.YtfinjenkgpndlaaGreatDoorW.PrintLast Go.Proofs.YtfinjenkgpndlaaGreatDoorW.PrintMore
set_option linter.unusedVariables false
set_option linter.unusedSimpArgs false

theorem right_calls (x : Rg) (w : World) : Calls Tryz.prog 67 #[.agg #[.int .i32 x.f0, .int .i32 x.f1]] w fun e w' => e = .returned (.bool (good x)) ∧ Below w.heap.size w w' :=
  uniset_right.calls x.f0 x.f1 (good x) w (right_eq x)
def inB (x : Rg) (r : Int) : Bool := good x && decide (x.f0 ≤ r) && decide (r ≤ x.f1)
set_option maxHeartbeats 1000000 in
theorem has_closure (x : Rg) (r : Int) (B : Nat) (W : World) (hB : B < W.heap.size) (hc : W.cell? ⟨B, 0, none⟩ = some (.int .i32 r)) :
    Calls Tryz.prog 66 #[.agg #[.int .i32 x.f0, .int .i32 x.f1], .pointer (some ⟨B, 0, none⟩)] W fun e w' => e = .returned (.bool (inB x r)) ∧ Below W.heap.size W w' := by
  have hu := Tryz.underlying58
  have hne : B ≠ W.heap.size := by omega
  unfold inB
  cases hg : good x with
  | false =>
    have hr := fun w => right_calls x w
    rw [hg] at hr
    clear hg
    go_enter Tryz.func66, Tryz.ntmps66
    go_wp2_with (go_at_call 67; refine (hr _).mono ?_; rintro e w' ⟨rfl, hb⟩)
    go_ret
    exact ⟨rfl, ((Below.refl _ _).alloc (Nat.le_refl _) _).trans (hb.mono (by simp))⟩
  | true =>
    have hr := fun w => right_calls x w
    rw [hg] at hr
    clear hg
    obtain ⟨b1, h1'⟩ : ∃ b, decide (x.f0 ≤ r) = b := ⟨_, rfl⟩
    obtain ⟨b2, h2'⟩ : ∃ b, decide (r ≤ x.f1) = b := ⟨_, rfl⟩
    cases b1
    all_goals cases b2
    all_goals
      go_enter Tryz.func66, Tryz.ntmps66
      go_wp2_with (go_at_call 67; refine (hr _).mono ?_; rintro e w' ⟨rfl, hb⟩; have c0 := cell_b hb (cell_old _ hc); have c1 := cell_b hb (cell_new 0 rfl); have c2 := cell_b hb (cell_new 1 rfl))
      go_ret
      exact ⟨by simp [*], below_a hb⟩

def encRg (x : Rg) : List Value := [.int .i32 x.f0, .int .i32 x.f1]
instance : Inhabited Rg := ⟨z58⟩
theorem contains_calls (p : Rg → Bool) (g : Nat) (lb : Array Value) (A0 : Option Addr) (c0 : Nat) (l0 : List Rg) (w : World) (eg : ∀ args w, (callFunc g args).run Tryz.prog w = .ok (.enter g args) w)
    (hp : PredBelow Tryz.prog g lb (fun x => .agg (encRg x).toArray) p w) (hr0 : Kd.C k58 w A0 l0.length l0) :
    Calls Tryz.prog 65 #[.slice A0 l0.length c0, .func (.func g) #[] lb] w fun e w' => e = .returned (.bool (l0.any p)) ∧ Below w.heap.size w w' := by
  by_cases hn : l0.length = 0
  · have hnil := List.eq_nil_of_length_eq_zero hn
    subst hnil
    rw [List.any_nil, List.length_nil]
    clear hr0 hn hp eg
    have hi : ∀ W, Calls Tryz.prog 91 #[.slice A0 0 c0, .func (.func g) #[] lb] W fun e w' => e = .returned (.int .i64 (-1)) ∧ w' = W := by
      intro W
      go_enter Tryz.func91, Tryz.ntmps91
      go_wp2
      refine wp_loop_rounds 1 ?_
      rw [rounds_succ]
      go_wp2
      go_ret
      exact ⟨rfl, rfl⟩
    go_enter Tryz.func65, Tryz.ntmps65
    go_wp2_with (go_at_call 91; refine (hi _).mono ?_; rintro e w' ⟨rfl, rfl⟩)
    go_ret
    exact ⟨rfl, Below.refl _ _⟩
  · obtain ⟨b, off, rfl, hb⟩ := C_plain hr0 (by omega) (by decide)
    have hcon := AnyQ.slices_ContainsFunc Tryz.containsRg 2 Tryz.isAgg58 Tryz.sizeOf58 encRg (fun _ => rfl) p g lb eg b off l0.length c0 l0 w hp (Nat.le_refl _) hr0.2.1 hb (fun j hj i v hi => by
      rw [getElem!_pos l0 j hj] at hi
      obtain ⟨c, h1, h2, h3⟩ := C_cell hr0 (List.getElem?_eq_getElem hj)
      rw [k58_open h2] at h3
      exact h3 i v hi)
    rw [List.take_length] at hcon
    exact hcon

def uniset_Has.f (l0 : List S58) (a1 : Int) : Option Bool := some (hasL l0 a1)
set_option maxHeartbeats 1000000 in
theorem uniset_Has.calls (A0 : Option Addr) (c0 : Nat) (l0 : List S58) (a1 : Int) (r : Bool) (w : World) (hr0 : Kd.C k58 w A0 l0.length l0) (hc0 : l0.length ≤ c0) (h : uniset_Has.f l0 a1 = some r) :
    Calls Tryz.prog 45 #[.slice A0 l0.length c0, .int .i32 a1] w fun e w' => e = .returned (.bool r) ∧ Below w.heap.size w w' := by
  obtain rfl := Option.some.inj h
  have eg : ∀ args w, (callFunc 66 args).run Tryz.prog w = .ok (.enter 66 args) w := enters_of Tryz.func66 (by kernel_rfl) rfl
  have hcon := contains_calls (fun x => inB x a1) 66 #[.pointer (some ⟨w.heap.size, 0, none⟩)] A0 c0 l0 (w.alloc (.cells #[.int .i32 a1] 21)) eg
    (fun W x hb => (has_closure x a1 w.heap.size W (by have := hb.size; simp at this; omega) (cell_b hb (cell_new 0 rfl))).mono fun _ _ ⟨he, hb2⟩ => ⟨he, below_t hb hb2⟩) (Kd.C_alloc hr0 _)
  have e : hasL l0 a1 = l0.any fun x => inB x a1 := rfl
  rw [e]
  generalize l0.any (fun x => inB x a1) = rr at hcon ⊢
  clear hr0 hc0 h e
  go_enter Tryz.func45, Tryz.ntmps45
  go_wp2_with (go_at_call 65; refine hcon.mono ?_; rintro e w' ⟨rfl, hb'⟩)
  go_ret
  exact ⟨rfl, below_a hb'⟩
end Go.Proofs.YtfinjenkgpndlaaGreatDoor.PA

namespace Go.Proofs.YtfinjenkgpndlaaGreatDoor.PA
open Go.RowKit Go.Shelf Go.Proofs.YtfinjenkgpndlaaGreatDoorW.PrintWords Go.Proofs.YtfinjenkgpndlaaGreatDoorW.PrintLast Go.Proofs.YtfinjenkgpndlaaGreatDoorW.PrintMore
attribute [local go_sem] Oper.semAt_some
set_option linter.unusedVariables false
set_option linter.unusedSimpArgs false

structure TxAt (W : World) (A : Option Addr) (c : Nat) (x : List Int) : Prop where
  row : Kd.C (Kd.int .i32) W A x.length x
  cap : x.length ≤ c
  len : x.length < 100000000
theorem TxAt.below {W W1 : World} {A : Option Addr} {c : Nat} {x : List Int} (h : TxAt W A c x) (hb : Below W.heap.size W W1) : TxAt W1 A c x := ⟨Kd.C_below h.row hb, h.cap, h.len⟩
theorem rd_getD (x : List Int) (i : Nat) : rd x (i : Int) = x.getD i 0 := by
  unfold rd
  rw [Int.toNat_natCast]
def stepT (x : List Int) (back : Bool) (i : Nat) : Int × Int × Bool :=
  if back = true then (if i = 0 then (0, 0, false) else (x.getD (i - 1) 0, ((i - 1 : Nat) : Int), true))
  else (if i = x.length then (0, 0, false) else (x.getD i 0, ((i + 1 : Nat) : Int), true))
theorem step_f (x : List Int) (back : Bool) (i : Nat) (hi : i ≤ x.length) (hx : x.length < 100000000) : match_walker_step.f x back (i : Int) = some (stepT x back i) := by
  unfold match_walker_step.f stepT
  cases back
  · simp only [Bool.false_eq_true, if_false]
    by_cases h : i = x.length
    · rw [if_pos (by omega), if_pos h]
    · rw [if_neg (by omega), if_neg h, if_pos (by omega), if_pos (by omega), rd_getD, w64 _ (by omega)]
      rfl
  · simp only [if_true]
    by_cases h : i = 0
    · rw [if_pos (by omega), if_pos h]
    · rw [if_neg (by omega), if_neg h, w64 _ (by omega), if_pos (by omega), if_pos (by omega)]
      rw [show (i : Int) - 1 = ((i - 1 : Nat) : Int) by omega, rd_getD]
theorem step_see (x : List Int) (back : Bool) (s : List Rg) (i : Nat) : seeL x back s i = if (stepT x back i).2.2 = true then (if hasL s (stepT x back i).1 = true then some (stepT x back i).2.1.toNat else none) else none := by
  unfold seeL stepT
  cases back
  · simp only [Bool.false_eq_true, if_false]
    split
    · rfl
    · rfl
  · simp only [if_true]
    split
    · rfl
    · rfl
theorem none_f (x : List Int) (back : Bool) (hx : x.length < 100000000) : match_walker_none.f x back = some (noneL x) := by
  unfold match_walker_none.f noneL
  rw [w64 _ (by omega), if_pos (by omega), if_pos (by omega), show ((x.length : Int) + 1).toNat = x.length + 1 by omega]
theorem stepT_nn (x : List Int) (back : Bool) (i : Nat) : 0 ≤ (stepT x back i).2.1 := by
  unfold stepT
  split
  · split
    · exact Int.le_refl 0
    · exact Int.natCast_nonneg _
  · split
    · exact Int.le_refl 0
    · exact Int.natCast_nonneg _
theorem stepF_none {f : Nat → Option Nat} {m : List Bool} {i : Nat} (h : f i = none) : stepF f m i = m := by unfold stepF; rw [h]
theorem stepF_some {f : Nat → Option Nat} {m : List Bool} {i j : Nat} (h : f i = some j) : stepF f m i = m.set j true := by unfold stepF; rw [h]
structure OneAt (w : World) (bo g c n : Nat) (m : List Bool) (At : Option Addr) (x : List Int) (ct : Nat) (back : Bool) (As : Option Addr) (s : List Rg) (cs : Nat) (W : World) : Prop where
  mark_ : MkAt w bo g c n m W
  bw : W.heap[w.heap.size]? = some (.cells #[.slice At x.length ct, .bool back] 121 (0, 0))
  bs : W.heap[w.heap.size + 1]? = some (.cells #[.slice As s.length cs] 23 (0, 0))
theorem OneAt.turn {w A C : World} {bo g c n ct cs B : Nat} {m : List Bool} {At As : Option Addr} {x : List Int} {s : List Rg} {back : Bool} (h : OneAt w bo g c n m At x ct back As s cs A) (ht : TurnFrom B A C) (hB : w.heap.size ≤ B) : OneAt w bo g c n m At x ct back As s cs C :=
  ⟨h.mark_.turn ht hB, ht.same _ _ h.bw (.inr rfl), ht.same _ _ h.bs (.inr rfl)⟩
theorem OneAt.below {w A C : World} {bo g c n ct cs : Nat} {m : List Bool} {At As : Option Addr} {x : List Int} {s : List Rg} {back : Bool} (h : OneAt w bo g c n m At x ct back As s cs A) (hb : Below A.heap.size A C) : OneAt w bo g c n m At x ct back As s cs C :=
  ⟨⟨(hb.block _ (blk_lt h.mark_.box)).trans h.mark_.box, Kd.R_below h.mark_.row hb, h.mark_.below.trans (hb.mono h.mark_.below.size), Nat.le_trans h.mark_.size hb.size⟩, (hb.block _ (blk_lt h.bw)).trans h.bw, (hb.block _ (blk_lt h.bs)).trans h.bs⟩
theorem OneAt.mark {w W : World} {bo g c n ct cs j : Nat} {m : List Bool} {At As : Option Addr} {x : List Int} {s : List Rg} {back : Bool} (h : OneAt w bo g c n m At x ct back As s cs W) (hg : w.heap.size ≤ g) (hj : j < m.length) : OneAt w bo g c n (m.set j true) At x ct back As s cs (W.setCell ⟨g, j, none⟩ (.bool true)) := by
  obtain ⟨_, _, _, _, h5⟩ := mark_row h.mark_.row hg j hj
  exact ⟨h.mark_.mark hg hj, (h5 w.heap.size hg).same _ _ h.bw (.inr rfl), (h5 w.heap.size hg).same _ _ h.bs (.inr rfl)⟩
set_option maxRecDepth 100000 in
set_option maxHeartbeats 4000000 in
theorem one_calls (At : Option Addr) (ct : Nat) (x : List Int) (back : Bool) (As : Option Addr) (cs : Nat) (s : List Rg) (xb ob cb : Nat) (bs : List Bool) (w : World) (hT : TxAt w At ct x) (hl : bs.length = x.length + 1) (hS : Kd.C k58 w As s.length s) (hcs : s.length ≤ cs) (hB : Kd.C Kd.bool w (some ⟨xb, ob, none⟩) bs.length bs) :
    Calls Tryz.prog 105 #[.agg #[.slice At x.length ct, .bool back], .slice As s.length cs, .slice (some ⟨xb, ob, none⟩) bs.length cb] w fun e w' => ∃ v, e = .returned v ∧ Kd.R Kd.bool 4 w' w.heap.size (fun _ => True) v (marksF (seeL x back s) (noneL x) (placesL bs)) ∧ Below w.heap.size w w' := by
  refine callsIn_wide (n := 5) |>.1 ?_
  refine callsIn_of_wp_marks Tryz.func105 rfl trivial ?_ rfl
  simp only [Tryz.ntmps105, List.size_toArray, List.length_cons, List.length_nil, Nat.reduceAdd, Nat.reduceSub, Array.replicate_succ, Array.replicate_zero, List.push_toArray, List.append_toArray, List.nil_append, List.cons_append]
  have hlx := hT.len
  have HT := Lib.hid hT
  have HBC := Lib.hid (And.intro hB hS)
  have HL := Lib.hid hl
  clear hT hB hS hl
  obtain ⟨u1, q1⟩ : ∃ u1, w.alloc (.cells #[.slice At x.length ct, .bool back] 121) = u1 := ⟨_, rfl⟩
  obtain ⟨u2, q2⟩ : ∃ u2, u1.alloc (.cells #[.slice As s.length cs] 23) = u2 := ⟨_, rfl⟩
  have z1 : u1.heap.size = w.heap.size + 1 := by rw [← q1]; simp
  have z2 : u2.heap.size = w.heap.size + 2 := by rw [← q2]; simp [z1]
  have v1 : Below w.heap.size w u1 := by rw [← q1]; exact (Below.refl _ w).alloc (Nat.le_refl _) _
  have m1 : u1.heap[w.heap.size]? = some (.cells #[.slice At x.length ct, .bool back] 121 (0, 0)) := by rw [← q1]; exact heap_alloc_new w _
  have v2 : Below u1.heap.size u1 u2 := by rw [← q2]; exact (Below.refl _ u1).alloc (Nat.le_refl _) _
  have m2 : u2.heap[w.heap.size + 1]? = some (.cells #[.slice As s.length cs] 23 (0, 0)) := by rw [← q2, ← z1]; exact heap_alloc_new u1 _
  have m1' : u2.heap[w.heap.size]? = some (.cells #[.slice At x.length ct, .bool back] 121 (0, 0)) := (v2.block _ (by omega)).trans m1
  have hbu : Below w.heap.size w u2 := v1.trans (v2.mono (by omega))
  have c0 := (blk_cell m1' 0).trans rfl
  have c1 := (blk_cell m1' 1).trans rfl
  have d0 := (blk_cell m1 0).trans rfl
  have d1 := (blk_cell m1 1).trans rfl
  have HN := Lib.hid (callsIn_wide (n := 5 - 1) |>.2 (match_walker_none.calls At ct x back _ u2 (HT.out.below hbu).row HT.out.cap (none_f x back hlx)))
  have HAll := Lib.hid (fun W => callsIn_wide (n := 5 - 1) |>.2 (spots_all_calls (.slice (some ⟨xb, ob, none⟩) bs.length cb) W xb ob bs.length cb rfl))
  have HU := Lib.hid (And.intro m1' (And.intro m2 hbu))
  have hlb : bs.length < 1000000000 := by have := HL.out; omega
  clear m1 m2 v1 v2 m1' hbu
  gi_wp2_with fail
  refine ⟨trivial, ?_⟩
  gi_at_call 77
  refine HN.out.mono ?_
  rintro e' wc ⟨v, rfl, hR, hb⟩
  have hnl : (noneL x).length = x.length + 1 := by simp [noneL]
  obtain ⟨g, c, rfl, hcc, hg, _, _⟩ := boolrow hR (by omega)
  rw [hnl] at hR hcc
  have HR := Lib.hid hR
  have HB := Lib.hid hb
  have HNL := Lib.hid hnl
  rw [hnl]
  clear hR hb HN hnl c0 c1 d0 d1 q1 q2
  gi_wp2_with fail
  refine ⟨trivial, ?_⟩
  gi_at_call 80
  refine (HAll.out _).mono ?_
  rintro e' w2 ⟨rfl, rfl⟩
  gi_wp2
  obtain ⟨a1, e1⟩ : ∃ a1, wc.alloc (.cells #[.slice (some ⟨g, 0, none⟩) (x.length + 1) c] 123) = a1 := ⟨_, rfl⟩
  obtain ⟨w2, e2⟩ : ∃ w2, a1.alloc (.cells #[.slice (some ⟨xb, ob, none⟩) bs.length cb] 123) = w2 := ⟨_, rfl⟩
  rw [e1, e2]
  have s1 : a1.heap.size = wc.heap.size + 1 := by rw [← e1]; simp
  have s2 : w2.heap.size = wc.heap.size + 2 := by rw [← e2]; simp [s1]
  have b1 : Below wc.heap.size wc a1 := by rw [← e1]; exact (Below.refl _ wc).alloc (Nat.le_refl _) _
  have n1 : a1.heap[wc.heap.size]? = some (.cells #[.slice (some ⟨g, 0, none⟩) (x.length + 1) c] 123 (0, 0)) := by rw [← e1]; exact heap_alloc_new wc _
  have b2 : Below a1.heap.size a1 w2 := by rw [← e2]; exact (Below.refl _ a1).alloc (Nat.le_refl _) _
  have n2 : w2.heap[wc.heap.size + 1]? = some (.cells #[.slice (some ⟨xb, ob, none⟩) bs.length cb] 123 (0, 0)) := by rw [← e2, ← s1]; exact heap_alloc_new a1 _
  have hwc := HB.out.size
  have hg' : w.heap.size ≤ g := by omega
  have hbc : Below u2.heap.size u2 w2 := HB.out.trans ((b1.mono hwc).trans (b2.mono (by omega)))
  have hb2 : Below w.heap.size w w2 := HU.out.2.2.trans (hbc.mono (by omega))
  have hM2 : OneAt w wc.heap.size g c (x.length + 1) (noneL x) At x ct back As s cs w2 := ⟨⟨(b2.block _ (by omega)).trans n1, Kd.R_lower (Kd.R_below (Kd.R_below HR.out b1) b2) (by omega), hb2, by omega⟩, (hbc.block _ (by omega)).trans HU.out.1, (hbc.block _ (by omega)).trans HU.out.2.1⟩
  have HM2 := Lib.hid hM2
  have hxb : xb < w.heap.size := by obtain ⟨b', o', e', h'⟩ := C_plain HBC.out.1 (by have := HL.out; omega) (by decide); cases e'; exact h'
  have hIt : ∀ r, Iter [4] Tryz.prog w.heap.size 108 #[.pointer (some ⟨wc.heap.size + 1, 0, none⟩)] (fun i : Nat => #[Value.int .i64 i]) (placesL bs) ((w2.alloc (.deferred (some []))).alloc (.loop r)) := fun r => by
    have hbb : Below w2.heap.size w2 ((w2.alloc (.deferred (some []))).alloc (.loop r)) := ((Below.refl _ w2).alloc (Nat.le_refl _) _).alloc (by simp) _
    exact spots_iter _ _ _ xb ob cb bs hxb hlb _ ((hbb.block _ (by omega)).trans n2) (Kd.C_below (Kd.C_below HBC.out.1 hb2) hbb)
  clear e1 e2 s1 b1 n1 b2 n2 hM2 hb2 hbc
  have hpl : ∀ i ∈ placesL bs, i ≤ x.length := fun i hi => by have := on_lt (mem_places.1 hi); have := HL.out; omega
  generalize hxs : placesL bs = xs at *
  have HXS := Lib.hid hxs
  clear hxs
  have HPL := Lib.hid hpl
  clear hpl
  refine range_turn (T := [4]) (B0 := w.heap.size) (gf := 108) (lb := #[.pointer (some ⟨wc.heap.size + 1, 0, none⟩)]) rfl (enters_of Tryz.func108 (by kernel_rfl) rfl) (fun _ => rfl) hIt
    (fun i W' => OneAt w wc.heap.size g c (x.length + 1) (marksF (seeL x back s) (noneL x) (xs.take i)) At x ct back As s cs W') (fun _ => False)
    (fun i A C q ht => q.turn ht (by omega)) (fun A C q ht => q) (by rw [List.take_zero]; exact HM2.out)
    (fun i => { tmps := #[.agg #[.slice At x.length ct, .bool back], .slice As s.length cs, .slice (some ⟨xb, ob, none⟩) bs.length cb, .pointer (some ⟨w.heap.size, 0, none⟩), .pointer (some ⟨w.heap.size + 1, 0, none⟩), undef, .slice none 0 0, .pointer (some ⟨wc.heap.size, 0, none⟩), .int .i64 i, undef, undef, undef, .agg #[.slice At x.length ct, .bool back], .slice (some ⟨g, 0, none⟩) (x.length + 1) c, .slice (some ⟨xb, ob, none⟩) bs.length cb, .func (.func 108) #[] #[.pointer (some ⟨wc.heap.size + 1, 0, none⟩)], .int .i64 i, undef, undef, undef, undef, undef, undef, undef, undef, undef, undef, undef, undef, undef, undef, undef, undef, undef], defers := [] })
    ?assign ?body ?done ?stop
  case assign =>
    intro l' i W' K hK
    gi_wp2
    exact hK
  case body =>
    rintro l' k i W' hx hj
    have hx' := HPL.out i (List.mem_of_getElem? hx)
    have hml : (marksF (seeL x back s) (noneL x) (xs.take k)).length = x.length + 1 := (marks_len _ _ _).trans HNL.out
    have c0 := (blk_cell hj.bw 0).trans rfl
    have c1 := (blk_cell hj.bw 1).trans rfl
    have hnn := stepT_nn x back i
    have hsee := step_see x back s i
    have hst : ∃ r t ok, stepT x back i = (r, t, ok) := ⟨_, _, _, rfl⟩
    obtain ⟨r, t, ok, hst⟩ := hst
    have hB' : Below w.heap.size w W' := hj.mark_.below
    have H1 := Lib.hid (callsIn_wide (n := 5 - 1) |>.2 (match_walker_step.calls At ct x back i r t ok W' (HT.out.below hB').row HT.out.cap (by rw [step_f x back i hx' hlx, hst])))
    rw [hst] at hnn hsee
    dsimp only at hnn hsee
    have HSEE := Lib.hid hsee
    have HJ := Lib.hid hj
    have HX := Lib.hid hx
    have HML := Lib.hid hml
    have HB' := Lib.hid hB'
    clear hst hsee hx hj hml hB' hIt
    gi_wp2_with fail
    refine ⟨trivial, ?_⟩
    gi_at_call 132
    refine H1.out.mono ?_
    rintro e' w3 ⟨rfl, hb3⟩
    have HJ3 := Lib.hid (HJ.out.below hb3)
    have HB3 := Lib.hid (KpT.of_below (T := [4]) (B := w.heap.size) hb3)
    have s0 : w3.cell? ⟨w.heap.size + 1, 0, none⟩ = some (.slice As s.length cs) := (blk_cell HJ3.out.bs 0).trans rfl
    clear hb3 H1
    cases ok with
    | false =>
      gi_wp2_with fail
      refine ⟨trivial, ?_⟩
      gi_wp2
      refine ⟨HB3.out, ?_⟩
      show OneAt w wc.heap.size g c (x.length + 1) (marksF (seeL x back s) (noneL x) (xs.take (k + 1))) At x ct back As s cs _
      rw [take_snoc HX.out, marks_snoc, stepF_none (HSEE.out.trans (if_neg (by decide)))]
      exact HJ3.out
    | true =>
      have H2 := Lib.hid (callsIn_wide (n := 5 - 1) |>.2 (uniset_Has.calls As cs s r _ w3 (Kd.C_below HBC.out.2 HJ3.out.mark_.below) hcs rfl))
      gi_wp2_with fail
      refine ⟨trivial, ?_⟩
      gi_at_call 45
      refine H2.out.mono ?_
      rintro e' w4 ⟨rfl, hb4⟩
      have HJ4 := Lib.hid (HJ3.out.below hb4)
      have HB4 := Lib.hid (HB3.out.trans (KpT.of_below (T := [4]) (B := w.heap.size) hb4))
      clear hb4 H2
      cases hh : hasL s r with
      | false =>
        have HH := Lib.hid hh
        clear hh
        gi_wp2
        refine ⟨HB4.out, ?_⟩
        show OneAt w wc.heap.size g c (x.length + 1) (marksF (seeL x back s) (noneL x) (xs.take (k + 1))) At x ct back As s cs _
        rw [take_snoc HX.out, marks_snoc, stepF_none (show seeL x back s i = none by have h := HSEE.out; simpa [HH.out] using h)]
        exact HJ4.out
      | true =>
        have HH := Lib.hid hh
        clear hh
        obtain ⟨j, rfl⟩ : ∃ j : Nat, t = j := ⟨t.toNat, by omega⟩
        have hsj : seeL x back s i = some j := by have h := HSEE.out; simpa [HH.out] using h
        have hjl : j < x.length + 1 := see_lt hx' hsj
        obtain ⟨⟨u, hu⟩, hf, _, _, hk⟩ := mark_row HJ4.out.mark_.row hg' j (by have := HML.out; omega)
        have cb0 : w4.cell? ⟨wc.heap.size, 0, none⟩ = some (.slice (some ⟨g, 0, none⟩) (x.length + 1) c) := (blk_cell HJ4.out.mark_.box 0).trans rfl
        have HN := Lib.hid (HJ4.out.mark hg' (by have := HML.out; omega : j < (marksF (seeL x back s) (noneL x) (xs.take k)).length))
        have HK := Lib.hid (hk w.heap.size hg')
        have HSJ := Lib.hid hsj
        clear hsj hk
        gi_wp2
        refine ⟨HB4.out.trans HK.out, ?_⟩
        show OneAt w wc.heap.size g c (x.length + 1) (marksF (seeL x back s) (noneL x) (xs.take (k + 1))) At x ct back As s cs _
        rw [take_snoc HX.out, marks_snoc, stepF_some HSJ.out]
        exact HN.out
  case done =>
    rintro D W' hD hj hK
    rw [List.take_length] at hj
    have cb0 : W'.cell? ⟨wc.heap.size, 0, none⟩ = some (.slice (some ⟨g, 0, none⟩) (x.length + 1) c) := (blk_cell hj.mark_.box 0).trans rfl
    have HJ := Lib.hid hj
    have HKD := Lib.hid hK
    clear hj hK
    gi_wp2
    refine ⟨by simp, .inl ⟨_, _, rfl, run_takeDeferred HKD.out, ?_⟩⟩
    have ht : TurnFrom w2.heap.size W' (W'.putObj D (.deferred none)) := TurnFrom.putObj _ hD HKD.out rfl
    exact ⟨_, results_tmp rfl _ _ _, .slice (some ⟨g, 0, none⟩) (x.length + 1) c, rfl, (by rw [HXS.out]; exact ht.R HJ.out.mark_.row), ht.below HJ.out.mark_.below (by omega)⟩
  case stop =>
    rintro D W' hD h hK
    exact h.elim
end Go.Proofs.YtfinjenkgpndlaaGreatDoor.PA

namespace Go.Proofs.YtfinjenkgpndlaaGreatDoor.PA
open Go.RowKit Go.Shelf Go.Proofs.YtfinjenkgpndlaaGreatDoorW.PrintWords Go.Proofs.YtfinjenkgpndlaaGreatDoorW.PrintLast Go.Proofs.YtfinjenkgpndlaaGreatDoorW.PrintMore
attribute [local go_sem] Oper.semAt_some
set_option linter.unusedVariables false
set_option linter.unusedSimpArgs false

theorem rdB (pre : List Bool) (b : Bool) (suf : List Bool) : rdOf false (pre ++ b :: suf) (pre.length : Int) = b := by
  unfold rdOf
  simp [List.getD]
theorem bools_l0 : ∀ (s1 s2 p1 p2 : List Bool), p1.length = p2.length → s1.length = s2.length → (p1 ++ s1).length < 200000000 → Evt (fun k => match_spots_bool.l0 k (p1 ++ s1) (p2 ++ s2) ((p1 ++ s1).length : Int) (p1.length : Int)) (decide (s1 = s2))
  | [], s2, p1, p2, hp, hs, hl => by
    obtain rfl : s2 = [] := List.eq_nil_of_length_eq_zero (by simpa using hs.symm)
    refine Evt.succ (fun k => match_spots_bool.l0.eq_2 _ _ _ _ _) ?_
    simp only [List.append_nil, Int.lt_irrefl, if_false]
    exact Evt.pure _
  | b1 :: t1, [], p1, p2, hp, hs, hl => by simp at hs
  | b1 :: t1, b2 :: t2, p1, p2, hp, hs, hl => by
    have hs' : t1.length = t2.length := by simpa using hs
    have hl' : p1.length + (t1.length + 1) < 200000000 := by simpa using hl
    have ih := bools_l0 t1 t2 (p1 ++ [b1]) (p2 ++ [b2]) (by simp [hp]) hs' (by simpa using hl)
    rw [List.append_assoc, List.append_assoc, List.singleton_append, List.singleton_append] at ih
    have e1 : ((p1.length : Int)) < ((p1 ++ b1 :: t1).length : Int) := by simp only [List.length_append, List.length_cons]; omega
    have e2 : ((p1.length : Int)) < ((p2 ++ b2 :: t2).length : Int) := by simp only [List.length_append, List.length_cons]; omega
    have e3 : wrap64 ((p1.length : Int) + 1) = ((p1 ++ [b1]).length : Int) := by rw [w64 _ (by omega)]; simp
    have e4 : rdOf false (p2 ++ b2 :: t2) (p1.length : Int) = b2 := by rw [hp]; exact rdB p2 b2 t2
    refine Evt.succ (fun k => match_spots_bool.l0.eq_2 _ _ _ _ _) ?_
    simp only [if_pos e1, if_pos e2, if_pos (Int.natCast_nonneg p1.length), rdB, e3, e4]
    by_cases hb : b1 = b2
    · subst hb
      simp only [bne_self_eq_false, Bool.false_eq_true, if_false]
      refine ih.cast ?_
      by_cases ht : t1 = t2
      · simp [ht]
      · simp [ht]
    · rw [decide_eq_false (by intro e; cases e; exact hb rfl)]
      simp only [show (b1 != b2) = true from by simpa using hb, if_true]
      exact Evt.pure _
theorem bools_ev (a b : List Bool) (h : a.length = b.length) (hl : a.length < 200000000) : Evt (fun k => match_spots_bool.f k a b) (decide (a = b)) := by
  have := bools_l0 a b [] [] rfl h (by simpa using hl)
  unfold match_spots_bool.f
  simp only [if_pos (by omega : (a.length : Int) = (b.length : Int))]
  simpa using this
theorem equal_calls (xa oa ca xb ob cb : Nat) (us bs : List Bool) (h : us.length = bs.length) (hl : us.length < 200000000) (hca : us.length ≤ ca) (hcb : bs.length ≤ cb) (w : World) (hA : Kd.C Kd.bool w (some ⟨xa, oa, none⟩) us.length us) (hB : Kd.C Kd.bool w (some ⟨xb, ob, none⟩) bs.length bs) :
    Calls Tryz.prog 134 #[.slice (some ⟨xa, oa, none⟩) us.length ca, .slice (some ⟨xb, ob, none⟩) bs.length cb] w fun e w' => e = .returned (.bool (decide (us = bs))) ∧ Below w.heap.size w w' := by
  obtain ⟨k, hk⟩ := (bools_ev us bs h hl).get
  exact (match_spots_bool.calls k _ ca us _ cb bs _ w hA hca hB hcb hk).mono fun _ _ ⟨h1, h2⟩ => ⟨h1, h2.below⟩
def valsB (W : World) : Value → List Bool
  | .slice (some a) n _ => (List.range n).map fun i => match W.cell? ⟨a.block, a.off + i, none⟩ with | some (.bool b) => b | _ => false
  | _ => []
theorem valsB_eq {W : World} {b o c : Nat} {bs : List Bool} (h : Kd.C Kd.bool W (some ⟨b, o, none⟩) bs.length bs) : valsB W (.slice (some ⟨b, o, none⟩) bs.length c) = bs := by
  unfold valsB
  apply List.ext_getElem (by simp)
  intro j h1 h2
  obtain ⟨cs, _, hK, hc⟩ := C_cell h (List.getElem?_eq_getElem h2)
  obtain rfl : cs = [.bool bs[j]] := hK
  have h0 : W.cell? ⟨b, o + j * 1 + 0, none⟩ = some (.bool bs[j]) := hc 0 _ rfl
  rw [Nat.mul_one, Nat.add_zero] at h0
  simp [h0]
def WalkOk (fn : Nat) (x : List Int) (back : Bool) (At : Option Addr) (ct : Nat) (e lead : Nd) : Prop := ∀ (w : World) (A2 A4 : Option Addr) (c2 c4 xb ob cb : Nat) (bs : List Bool), TxAt w At ct x → e.f2.length ≤ c2 → e.f4.length ≤ c4 → Kd.C k58 w A2 e.f2.length e.f2 → Kd.C k26 w A4 e.f4.length e.f4 →
    bs.length = x.length + 1 → bs.length ≤ cb → Kd.C Kd.bool w (some ⟨xb, ob, none⟩) bs.length bs →
    Calls Tryz.prog fn #[.agg #[.slice At x.length ct, .bool back], .agg #[.int .i64 e.f0, .int .i64 e.f1, .slice A2 e.f2.length c2, .string e.f3, .slice A4 e.f4.length c4], .slice (some ⟨xb, ob, none⟩) bs.length cb] w fun r w' =>
      ∃ (b' o' c' : Nat) (ds : List Bool), r = .returned (.slice (some ⟨b', o', none⟩) ds.length c') ∧ ds.length ≤ c' ∧ LeadsTo x back lead bs ds ∧ Kd.C Kd.bool w' (some ⟨b', o', none⟩) ds.length ds ∧ Below w.heap.size w w'
set_option maxRecDepth 100000 in
set_option maxHeartbeats 4000000 in
theorem star_ok (x : List Int) (back : Bool) (At : Option Addr) (ct : Nat) (e : Nd) (hW : WalkOk 79 x back At ct e e) : WalkOk 107 x back At ct e (oneN 6 e) := by
  intro w A2 A4 c2 c4 xb ob cb bs hT hl2 hl4 h2 h4 hl hcb hB
  have hlx := hT.len
  obtain ⟨u1, q1⟩ : ∃ u1, w.alloc (.cells #[.slice At x.length ct, .bool back] 121) = u1 := ⟨_, rfl⟩
  obtain ⟨u2, q2⟩ : ∃ u2, u1.alloc (.cells #[.int .i64 e.f0, .int .i64 e.f1, .slice A2 e.f2.length c2, .string e.f3, .slice A4 e.f4.length c4] 26) = u2 := ⟨_, rfl⟩
  have z1 : u1.heap.size = w.heap.size + 1 := by rw [← q1]; simp
  have z2 : u2.heap.size = w.heap.size + 2 := by rw [← q2]; simp [z1]
  have v1 : Below w.heap.size w u1 := by rw [← q1]; exact (Below.refl _ w).alloc (Nat.le_refl _) _
  have m1 : u1.heap[w.heap.size]? = some (.cells #[.slice At x.length ct, .bool back] 121 (0, 0)) := by rw [← q1]; exact heap_alloc_new w _
  have v2 : Below u1.heap.size u1 u2 := by rw [← q2]; exact (Below.refl _ u1).alloc (Nat.le_refl _) _
  have m2 : u2.heap[w.heap.size + 1]? = some (.cells #[.int .i64 e.f0, .int .i64 e.f1, .slice A2 e.f2.length c2, .string e.f3, .slice A4 e.f4.length c4] 26 (0, 0)) := by rw [← q2, ← z1]; exact heap_alloc_new u1 _
  have m1' : u2.heap[w.heap.size]? = some (.cells #[.slice At x.length ct, .bool back] 121 (0, 0)) := (v2.block _ (by omega)).trans m1
  have hbu : Below w.heap.size w u2 := v1.trans (v2.mono (by omega))
  have HT := Lib.hid hT
  have HC := Lib.hid (And.intro h2 h4)
  have HM := Lib.hid (And.intro m1' m2)
  have HBU := Lib.hid hbu
  have HBS := Lib.hid (Kd.C_below hB hbu)
  have HL := Lib.hid hl
  have HW := Lib.hid hW
  have hlb : bs.length < 100000001 := by omega
  clear hT h2 h4 m1 m1' m2 v1 v2 hbu hB hl hW
  go_enter Tryz.func107, Tryz.ntmps107
  go_wp2
  clear q1 q2
  go_loopw [2] (fun v wr => ∃ (b o c : Nat) (cs : List Bool), v = .slice (some ⟨b, o, none⟩) cs.length c ∧ cs.length ≤ c ∧ Hid (Soon x back (oneN 6 e) bs cs) ∧ Hid (Kd.C Kd.bool wr (some ⟨b, o, none⟩) cs.length cs) ∧ Hid (Below u2.heap.size u2 wr)) (fun v wr => offs (valsB wr v))
  case atStart => exact ⟨xb, ob, cb, bs, rfl, hcb, Lib.hid (Soon.start rfl HL.out), HBS, Lib.hid (Below.refl _ _)⟩
  case round =>
    obtain ⟨b, o, c, cs, rfl, hc, hS, hC, hBr⟩ := hrel
    have c0 := (blk_cell ((hBr.out.block _ (by omega)).trans HM.out.1) 0).trans rfl
    have c1 := (blk_cell ((hBr.out.block _ (by omega)).trans HM.out.1) 1).trans rfl
    have d0 := (blk_cell ((hBr.out.block _ (by omega)).trans HM.out.2) 0).trans rfl
    have d1 := (blk_cell ((hBr.out.block _ (by omega)).trans HM.out.2) 1).trans rfl
    have d2 := (blk_cell ((hBr.out.block _ (by omega)).trans HM.out.2) 2).trans rfl
    have d3 := (blk_cell ((hBr.out.block _ (by omega)).trans HM.out.2) 3).trans rfl
    have d4 := (blk_cell ((hBr.out.block _ (by omega)).trans HM.out.2) 4).trans rfl
    have hbw : Below w.heap.size w wr := HBU.out.trans (hBr.out.mono (by omega))
    have H1 := Lib.hid (HW.out wr A2 A4 c2 c4 b o c cs (HT.out.below hbw) hl2 hl4 (Kd.C_below HC.out.1 hbw) (Kd.C_below HC.out.2 hbw) hS.out.len hc hC.out)
    clear hbw
    go_wp2_with fail
    refine H1.out.mono ?_
    rintro e' w3 ⟨b', o', c', ds, rfl, hc', hLd, hCd, hb3⟩
    have hlen : cs.length = ds.length := by rw [hS.out.len, hLd.len]
    have hcl : cs.length < 100000000 + 1 := by rw [hS.out.len]; omega
    have H2 := Lib.hid (or_calls b o c b' o' c' cs ds hlen (by rw [hS.out.len]; omega) (by omega) w3 (Kd.C_below hC.out hb3) hCd)
    have HLD := Lib.hid hLd
    have HB3 := Lib.hid hb3
    have HLEN := Lib.hid hlen
    clear hb3 hlen hcl H1 hLd hCd
    go_wp2_with fail
    refine H2.out.mono ?_
    rintro e' w4 ⟨v, rfl, hR4, hb4⟩
    have hol : (orL cs ds).length = cs.length := or_len HLEN.out
    have hcl : cs.length < 100000001 := by rw [hS.out.len]; omega
    obtain ⟨g, cg, rfl, hcg, _, _, hCg⟩ := boolrow hR4 (by rw [hol, hS.out.len]; omega)
    have H3 := Lib.hid (equal_calls g 0 cg b o c (orL cs ds) cs hol (by rw [hol]; omega) hcg hc w4 hCg (Kd.C_below (Kd.C_below hC.out HB3.out) hb4))
    have HG := Lib.hid hCg
    have HB4 := Lib.hid (HB3.out.trans (hb4.mono HB3.out.size))
    have HOL := Lib.hid hol
    clear hR4 hb4 hol H2 hCg
    go_wp2_with fail
    refine H3.out.mono ?_
    rintro e' w5 ⟨rfl, hb5⟩
    have HB5 := Lib.hid (HB4.out.trans (hb5.mono HB4.out.size))
    have HG5 := Lib.hid (Kd.C_below HG.out hb5)
    clear hb5 H3
    by_cases heq : orL cs ds = cs
    · have HEQ := Lib.hid heq
      have hde : decide (orL cs ds = cs) = true := decide_eq_true heq
      rw [hde]
      clear heq hde
      go_wp2
      go_ret
      exact ⟨g, 0, cg, orL cs ds, rfl, hcg, by rw [HEQ.out]; exact hS.out.done rfl rfl HLD.out HEQ.out, HG5.out, HBU.out.trans ((hBr.out.trans (HB5.out.mono hBr.out.size)).mono (by omega))⟩
    · have HNE := Lib.hid heq
      have hde : decide (orL cs ds = cs) = false := decide_eq_false heq
      rw [hde]
      clear heq hde
      go_wp2
      refine ⟨⟨g, 0, cg, orL cs ds, rfl, hcg, Lib.hid (hS.out.more rfl rfl HLD.out), HG5, Lib.hid (hBr.out.trans (HB5.out.mono hBr.out.size))⟩, ?_⟩
      rw [valsB_eq HG5.out, valsB_eq hC.out]
      exact offs_lt cs ds HLEN.out HNE.out
end Go.Proofs.YtfinjenkgpndlaaGreatDoor.PA

namespace Go.Proofs.YtfinjenkgpndlaaGreatDoor.PA
open Go.RowKit Go.Shelf Go.Proofs.YtfinjenkgpndlaaGreatDoorW.PrintWords Go.Proofs.YtfinjenkgpndlaaGreatDoorW.PrintLast Go.Proofs.YtfinjenkgpndlaaGreatDoorW.PrintMore
attribute [local go_sem] Oper.semAt_some
set_option linter.unusedVariables false
set_option linter.unusedSimpArgs false

set_option maxRecDepth 100000 in
set_option maxHeartbeats 8000000 in
theorem walk_set (x : List Int) (back : Bool) (At : Option Addr) (ct : Nat) (p : Int) (s : List Rg) (nm : ByteArray) (ks : List Nd) : WalkOk 79 x back At ct (⟨1, p, s, nm, ks⟩ : Nd) ⟨1, p, s, nm, ks⟩ := by
  intro w A2 A4 c2 c4 xb ob cb bs hT hl2 hl4 h2 h4 hl hcb hB
  dsimp only at hl2 hl4 h2 h4 ⊢
  have hlx := hT.len
  obtain ⟨u1, q1⟩ : ∃ u1, w.alloc (.cells #[.slice At x.length ct, .bool back] 121) = u1 := ⟨_, rfl⟩
  obtain ⟨u2, q2⟩ : ∃ u2, u1.alloc (.cells #[.int .i64 1, .int .i64 p, .slice A2 s.length c2, .string nm, .slice A4 (ks : List Nd).length c4] 26) = u2 := ⟨_, rfl⟩
  have z1 : u1.heap.size = w.heap.size + 1 := by rw [← q1]; simp
  have z2 : u2.heap.size = w.heap.size + 2 := by rw [← q2]; simp [z1]
  have v1 : Below w.heap.size w u1 := by rw [← q1]; exact (Below.refl _ w).alloc (Nat.le_refl _) _
  have m1 : u1.heap[w.heap.size]? = some (.cells #[.slice At x.length ct, .bool back] 121 (0, 0)) := by rw [← q1]; exact heap_alloc_new w _
  have v2 : Below u1.heap.size u1 u2 := by rw [← q2]; exact (Below.refl _ u1).alloc (Nat.le_refl _) _
  have m2 : u2.heap[w.heap.size + 1]? = some (.cells #[.int .i64 1, .int .i64 p, .slice A2 s.length c2, .string nm, .slice A4 (ks : List Nd).length c4] 26 (0, 0)) := by rw [← q2, ← z1]; exact heap_alloc_new u1 _
  have m1' : u2.heap[w.heap.size]? = some (.cells #[.slice At x.length ct, .bool back] 121 (0, 0)) := (v2.block _ (by omega)).trans m1
  have hbu : Below w.heap.size w u2 := v1.trans (v2.mono (by omega))
  have c0 : u2.cell? ⟨w.heap.size, 0, none⟩ = some (.slice At x.length ct) := (blk_cell m1' 0).trans rfl
  have c1 : u2.cell? ⟨w.heap.size, 1, none⟩ = some (.bool back) := (blk_cell m1' 1).trans rfl
  have k0 : u2.cell? ⟨w.heap.size + 1, 0, none⟩ = some (.int .i64 1) := (blk_cell m2 0).trans rfl
  have k2 : u2.cell? ⟨w.heap.size + 1, 2, none⟩ = some (.slice A2 s.length c2) := (blk_cell m2 2).trans rfl
  have k4 : u2.cell? ⟨w.heap.size + 1, 4, none⟩ = some (.slice A4 (ks : List Nd).length c4) := (blk_cell m2 4).trans rfl
  have HT := Lib.hid (hT.below hbu)
  have HBS := Lib.hid (Kd.C_below hB hbu)
  have HL := Lib.hid hl
  have HBU := Lib.hid hbu
  have HC := Lib.hid (And.intro (Kd.C_below h2 hbu) (Kd.C_below h4 hbu))
  have hlb : bs.length < 100000001 := by omega
  clear hT hB hl hbu h2 h4 m1 m1' m2 v1 v2
  have H1 := Lib.hid (one_calls At ct x back A2 c2 s xb ob cb bs u2 HT.out HL.out HC.out.1 hl2 HBS.out)
  go_enter Tryz.func79, Tryz.ntmps79
  go_wp2_with fail
  refine H1.out.mono ?_
  rintro e' w3 ⟨v, rfl, hR, hb⟩
  have hlead := leads_set (x := x) (back := back) (e := (⟨1, p, s, nm, ks⟩ : Nd)) (bs := bs) rfl HL.out
  obtain ⟨g, c, rfl, hcg, _, _, hCg⟩ := boolrow hR (by rw [hlead.len]; omega)
  have HX := Lib.hid (And.intro hlead (And.intro hCg hb))
  clear hlead hCg hb hR H1
  go_wp2
  go_ret
  exact ⟨g, 0, c, _, rfl, hcg, HX.out.1, HX.out.2.1, HBU.out.trans (HX.out.2.2.mono (by omega))⟩
set_option maxRecDepth 100000 in
set_option maxHeartbeats 8000000 in
theorem walk_none (x : List Int) (back : Bool) (At : Option Addr) (ct : Nat) (p : Int) (s : List Rg) (nm : ByteArray) (ks : List Nd) : WalkOk 79 x back At ct (⟨3, p, s, nm, ks⟩ : Nd) ⟨3, p, s, nm, ks⟩ := by
  intro w A2 A4 c2 c4 xb ob cb bs hT hl2 hl4 h2 h4 hl hcb hB
  dsimp only at hl2 hl4 h2 h4 ⊢
  have hlx := hT.len
  obtain ⟨u1, q1⟩ : ∃ u1, w.alloc (.cells #[.slice At x.length ct, .bool back] 121) = u1 := ⟨_, rfl⟩
  obtain ⟨u2, q2⟩ : ∃ u2, u1.alloc (.cells #[.int .i64 3, .int .i64 p, .slice A2 s.length c2, .string nm, .slice A4 (ks : List Nd).length c4] 26) = u2 := ⟨_, rfl⟩
  have z1 : u1.heap.size = w.heap.size + 1 := by rw [← q1]; simp
  have z2 : u2.heap.size = w.heap.size + 2 := by rw [← q2]; simp [z1]
  have v1 : Below w.heap.size w u1 := by rw [← q1]; exact (Below.refl _ w).alloc (Nat.le_refl _) _
  have m1 : u1.heap[w.heap.size]? = some (.cells #[.slice At x.length ct, .bool back] 121 (0, 0)) := by rw [← q1]; exact heap_alloc_new w _
  have v2 : Below u1.heap.size u1 u2 := by rw [← q2]; exact (Below.refl _ u1).alloc (Nat.le_refl _) _
  have m2 : u2.heap[w.heap.size + 1]? = some (.cells #[.int .i64 3, .int .i64 p, .slice A2 s.length c2, .string nm, .slice A4 (ks : List Nd).length c4] 26 (0, 0)) := by rw [← q2, ← z1]; exact heap_alloc_new u1 _
  have m1' : u2.heap[w.heap.size]? = some (.cells #[.slice At x.length ct, .bool back] 121 (0, 0)) := (v2.block _ (by omega)).trans m1
  have hbu : Below w.heap.size w u2 := v1.trans (v2.mono (by omega))
  have c0 : u2.cell? ⟨w.heap.size, 0, none⟩ = some (.slice At x.length ct) := (blk_cell m1' 0).trans rfl
  have c1 : u2.cell? ⟨w.heap.size, 1, none⟩ = some (.bool back) := (blk_cell m1' 1).trans rfl
  have k0 : u2.cell? ⟨w.heap.size + 1, 0, none⟩ = some (.int .i64 3) := (blk_cell m2 0).trans rfl
  have k2 : u2.cell? ⟨w.heap.size + 1, 2, none⟩ = some (.slice A2 s.length c2) := (blk_cell m2 2).trans rfl
  have k4 : u2.cell? ⟨w.heap.size + 1, 4, none⟩ = some (.slice A4 (ks : List Nd).length c4) := (blk_cell m2 4).trans rfl
  have HT := Lib.hid (hT.below hbu)
  have HBS := Lib.hid (Kd.C_below hB hbu)
  have HL := Lib.hid hl
  have HBU := Lib.hid hbu
  have HC := Lib.hid (And.intro (Kd.C_below h2 hbu) (Kd.C_below h4 hbu))
  have hlb : bs.length < 100000001 := by omega
  clear hT hB hl hbu h2 h4 m1 m1' m2 v1 v2
  go_enter Tryz.func79, Tryz.ntmps79
  go_wp2
  go_ret
  exact ⟨xb, ob, cb, bs, rfl, hcb, leads_none rfl HL.out, HBS.out, HBU.out⟩
end Go.Proofs.YtfinjenkgpndlaaGreatDoor.PA

namespace Go.Proofs.YtfinjenkgpndlaaGreatDoor.PA
open Go.RowKit Go.Shelf Go.Proofs.YtfinjenkgpndlaaGreatDoorW.PrintWords Go.Proofs.YtfinjenkgpndlaaGreatDoorW.PrintLast Go.Proofs.YtfinjenkgpndlaaGreatDoorW.PrintMore
attribute [local go_sem] Oper.semAt_some
set_option linter.unusedVariables false
set_option linter.unusedSimpArgs false

theorem bl_undrewN {B n : Nat} {w W : World} (h : Below B (w.drewN n) W) : Below B w W := ⟨h.os, h.tape, h.output, h.size, h.block⟩
theorem bl_undrew {B : Nat} {w W : World} (h : Below B w.drew W) : Below B w W := ⟨h.os, h.tape, h.output, h.size, h.block⟩
theorem star_same {x : List Int} {e e' a : Nd} (hk : e.f0 = 6) (hs : e.f4 = [a]) (hk' : e'.f0 = 6) (hs' : e'.f4 = [a]) : ∀ {i j : Nat}, Mt x e i j → Mt x e' i j := by
  intro i j h
  exact mv_closed (x := x) (back := false) (e := e) (a := a) hk hs (S := fun j => Mt x e' i j) (fun p q hp hq => star_trans hk' hp (.starS e' a p q q hk' hs' hq (.star0 e' q hk' (Mt.le hq).2))) i j (.star0 e' i hk' (by have := h.le; omega)) h
theorem LeadsTo.congr {x : List Int} {back : Bool} {e e' : Nd} {bs cs : List Bool} (h : LeadsTo x back e bs cs) (hm : ∀ i j, Mt x e i j ↔ Mt x e' i j) : LeadsTo x back e' bs cs := ⟨h.len, fun j => by
  rw [h.iff]
  constructor
  · rintro ⟨i, h1, h2⟩
    refine ⟨i, h1, ?_⟩
    cases back
    · exact (hm _ _).1 h2
    · exact (hm _ _).1 h2
  · rintro ⟨i, h1, h2⟩
    refine ⟨i, h1, ?_⟩
    cases back
    · exact (hm _ _).2 h2
    · exact (hm _ _).2 h2⟩
set_option maxRecDepth 100000 in
set_option maxHeartbeats 8000000 in
theorem walk_star (x : List Int) (back : Bool) (At : Option Addr) (ct : Nat) (p : Int) (s : List Rg) (nm : ByteArray) (a : Nd) (hS : WalkOk 107 x back At ct a (oneN 6 a)) : WalkOk 79 x back At ct (⟨6, p, s, nm, [a]⟩ : Nd) ⟨6, p, s, nm, [a]⟩ := by
  intro w A2 A4 c2 c4 xb ob cb bs hT hl2 hl4 h2 h4 hl hcb hB
  dsimp only at hl2 hl4 h2 h4 ⊢
  have hlx := hT.len
  obtain ⟨u1, q1⟩ : ∃ u1, w.alloc (.cells #[.slice At x.length ct, .bool back] 121) = u1 := ⟨_, rfl⟩
  obtain ⟨u2, q2⟩ : ∃ u2, u1.alloc (.cells #[.int .i64 6, .int .i64 p, .slice A2 s.length c2, .string nm, .slice A4 1 c4] 26) = u2 := ⟨_, rfl⟩
  have z1 : u1.heap.size = w.heap.size + 1 := by rw [← q1]; simp
  have z2 : u2.heap.size = w.heap.size + 2 := by rw [← q2]; simp [z1]
  have v1 : Below w.heap.size w u1 := by rw [← q1]; exact (Below.refl _ w).alloc (Nat.le_refl _) _
  have m1 : u1.heap[w.heap.size]? = some (.cells #[.slice At x.length ct, .bool back] 121 (0, 0)) := by rw [← q1]; exact heap_alloc_new w _
  have v2 : Below u1.heap.size u1 u2 := by rw [← q2]; exact (Below.refl _ u1).alloc (Nat.le_refl _) _
  have m2 : u2.heap[w.heap.size + 1]? = some (.cells #[.int .i64 6, .int .i64 p, .slice A2 s.length c2, .string nm, .slice A4 1 c4] 26 (0, 0)) := by rw [← q2, ← z1]; exact heap_alloc_new u1 _
  have m1' : u2.heap[w.heap.size]? = some (.cells #[.slice At x.length ct, .bool back] 121 (0, 0)) := (v2.block _ (by omega)).trans m1
  have hbu : Below w.heap.size w u2 := v1.trans (v2.mono (by omega))
  have c0 : u2.cell? ⟨w.heap.size, 0, none⟩ = some (.slice At x.length ct) := (blk_cell m1' 0).trans rfl
  have c1 : u2.cell? ⟨w.heap.size, 1, none⟩ = some (.bool back) := (blk_cell m1' 1).trans rfl
  have k0 : u2.cell? ⟨w.heap.size + 1, 0, none⟩ = some (.int .i64 6) := (blk_cell m2 0).trans rfl
  have k2 : u2.cell? ⟨w.heap.size + 1, 2, none⟩ = some (.slice A2 s.length c2) := (blk_cell m2 2).trans rfl
  have k4 : u2.cell? ⟨w.heap.size + 1, 4, none⟩ = some (.slice A4 1 c4) := (blk_cell m2 4).trans rfl
  have HT := Lib.hid (hT.below hbu)
  have HBS := Lib.hid (Kd.C_below hB hbu)
  have HL := Lib.hid hl
  have HBU := Lib.hid hbu
  have HC := Lib.hid (And.intro (Kd.C_below h2 hbu) (Kd.C_below h4 hbu))
  have hlb : bs.length < 100000001 := by omega
  obtain ⟨b4, o4, rfl, hb4⟩ := C_plain h4 (by simp) (by decide)
  obtain ⟨csa, _, hKa, hca⟩ := C_cell h4 (j := 0) (p := a) rfl
  obtain ⟨aA2, ac2, aA4, ac4, rfl, al2, aC2, al4, aC4⟩ := k26_open hKa
  have a0 : u2.cell? ⟨b4, o4, none⟩ = some (.int .i64 a.f0) := cell_b hbu (hca 0 _ rfl)
  have a1 : u2.cell? ⟨b4, o4 + 1, none⟩ = some (.int .i64 a.f1) := cell_b hbu (hca 1 _ rfl)
  have a2 : u2.cell? ⟨b4, o4 + 2, none⟩ = some (.slice aA2 a.f2.length ac2) := cell_b hbu (hca 2 _ rfl)
  have a3 : u2.cell? ⟨b4, o4 + 3, none⟩ = some (.string a.f3) := cell_b hbu (hca 3 _ rfl)
  have a4 : u2.cell? ⟨b4, o4 + 4, none⟩ = some (.slice aA4 a.f4.length ac4) := cell_b hbu (hca 4 _ rfl)
  have Ha := Lib.hid (And.intro (And.intro al2 al4) (And.intro (Kd.C_below aC2 hbu) (Kd.C_below aC4 hbu)))
  clear hKa hca aC2 aC4
  clear hT hB hl hbu h2 h4 m1 m1' m2 v1 v2
  have H1 := Lib.hid (fun (W9 : World) (h9 : Below u2.heap.size u2 W9) (xb ob cb : Nat) (bs : List Bool) (hl : bs.length = x.length + 1) (hcb : bs.length ≤ cb) (hB : Kd.C Kd.bool W9 (some ⟨xb, ob, none⟩) bs.length bs) => hS W9 aA2 aA4 ac2 ac4 xb ob cb bs (HT.out.below h9) Ha.out.1.1 Ha.out.1.2 (Kd.C_below Ha.out.2.1 h9) (Kd.C_below Ha.out.2.2 h9) hl hcb hB)
  clear hS
  have HCE := Lib.hid (fun (W9 : World) (h9 : Below u2.heap.size u2 W9) => (⟨cell_b h9 c0, cell_b h9 c1, cell_b h9 k4, cell_b h9 a0, cell_b h9 a1, cell_b h9 a2, cell_b h9 a3, cell_b h9 a4⟩ : W9.cell? ⟨w.heap.size, 0, none⟩ = some (.slice At x.length ct) ∧ W9.cell? ⟨w.heap.size, 1, none⟩ = some (.bool back) ∧ W9.cell? ⟨w.heap.size + 1, 4, none⟩ = some (.slice (some ⟨b4, o4, none⟩) 1 c4) ∧ W9.cell? ⟨b4, o4, none⟩ = some (.int .i64 a.f0) ∧ W9.cell? ⟨b4, o4 + 1, none⟩ = some (.int .i64 a.f1) ∧ W9.cell? ⟨b4, o4 + 2, none⟩ = some (.slice aA2 a.f2.length ac2) ∧ W9.cell? ⟨b4, o4 + 3, none⟩ = some (.string a.f3) ∧ W9.cell? ⟨b4, o4 + 4, none⟩ = some (.slice aA4 a.f4.length ac4)))
  go_enter Tryz.func79, Tryz.ntmps79
  go_wp2
  clear q1 q2
  go_region_held3 (fun w9 => w9.cell? ⟨w.heap.size, 0, none⟩ = some (.slice At x.length ct) ∧ w9.cell? ⟨w.heap.size, 1, none⟩ = some (.bool back) ∧ w9.cell? ⟨w.heap.size + 1, 4, none⟩ = some (.slice (some ⟨b4, o4, none⟩) 1 c4) ∧ w9.cell? ⟨b4, o4, none⟩ = some (.int .i64 a.f0) ∧ w9.cell? ⟨b4, o4 + 1, none⟩ = some (.int .i64 a.f1) ∧ w9.cell? ⟨b4, o4 + 2, none⟩ = some (.slice aA2 a.f2.length ac2) ∧ w9.cell? ⟨b4, o4 + 3, none⟩ = some (.string a.f3) ∧ w9.cell? ⟨b4, o4 + 4, none⟩ = some (.slice aA4 a.f4.length ac4)) (exact HCE.out _ (by repeat (first | exact Below.refl _ _ | assumption | apply below_drew | apply pw_below_drewN))) (first | (go_at_call 107; refine (H1.out _ (by repeat (first | exact Below.refl _ _ | assumption | apply below_drew | apply pw_below_drewN)) xb ob cb bs HL.out hcb (Kd.C_below HBS.out (by repeat (first | exact Below.refl _ _ | assumption | apply below_drew | apply pw_below_drewN)))).mono ?_; rintro e' wz ⟨bz, oz, cz, dz, rfl, hcz, hLz, hCz, hbz⟩; have hBz := below_t (show Below u2.heap.size u2 _ by repeat (first | exact Below.refl _ _ | assumption | apply below_drew | apply pw_below_drewN)) hbz; clear hbz))
  have HX := Lib.hid (And.intro hLz (And.intro hCz hBz))
  clear hLz hCz hBz
  go_wp2
  go_ret
  exact ⟨bz, oz, cz, dz, rfl, hcz, HX.out.1.congr fun i j => ⟨star_same rfl rfl rfl rfl, star_same rfl rfl rfl rfl⟩, HX.out.2.1, HBU.out.trans (HX.out.2.2.mono (by omega))⟩
set_option maxRecDepth 100000 in
set_option maxHeartbeats 8000000 in
theorem walk_plus (x : List Int) (back : Bool) (At : Option Addr) (ct : Nat) (p : Int) (s : List Rg) (nm : ByteArray) (a : Nd) (hW : WalkOk 79 x back At ct a a) (hS : WalkOk 107 x back At ct a (oneN 6 a)) : WalkOk 79 x back At ct (⟨7, p, s, nm, [a]⟩ : Nd) ⟨7, p, s, nm, [a]⟩ := by
  intro w A2 A4 c2 c4 xb ob cb bs hT hl2 hl4 h2 h4 hl hcb hB
  dsimp only at hl2 hl4 h2 h4 ⊢
  have hlx := hT.len
  obtain ⟨u1, q1⟩ : ∃ u1, w.alloc (.cells #[.slice At x.length ct, .bool back] 121) = u1 := ⟨_, rfl⟩
  obtain ⟨u2, q2⟩ : ∃ u2, u1.alloc (.cells #[.int .i64 7, .int .i64 p, .slice A2 s.length c2, .string nm, .slice A4 1 c4] 26) = u2 := ⟨_, rfl⟩
  have z1 : u1.heap.size = w.heap.size + 1 := by rw [← q1]; simp
  have z2 : u2.heap.size = w.heap.size + 2 := by rw [← q2]; simp [z1]
  have v1 : Below w.heap.size w u1 := by rw [← q1]; exact (Below.refl _ w).alloc (Nat.le_refl _) _
  have m1 : u1.heap[w.heap.size]? = some (.cells #[.slice At x.length ct, .bool back] 121 (0, 0)) := by rw [← q1]; exact heap_alloc_new w _
  have v2 : Below u1.heap.size u1 u2 := by rw [← q2]; exact (Below.refl _ u1).alloc (Nat.le_refl _) _
  have m2 : u2.heap[w.heap.size + 1]? = some (.cells #[.int .i64 7, .int .i64 p, .slice A2 s.length c2, .string nm, .slice A4 1 c4] 26 (0, 0)) := by rw [← q2, ← z1]; exact heap_alloc_new u1 _
  have m1' : u2.heap[w.heap.size]? = some (.cells #[.slice At x.length ct, .bool back] 121 (0, 0)) := (v2.block _ (by omega)).trans m1
  have hbu : Below w.heap.size w u2 := v1.trans (v2.mono (by omega))
  have c0 : u2.cell? ⟨w.heap.size, 0, none⟩ = some (.slice At x.length ct) := (blk_cell m1' 0).trans rfl
  have c1 : u2.cell? ⟨w.heap.size, 1, none⟩ = some (.bool back) := (blk_cell m1' 1).trans rfl
  have k0 : u2.cell? ⟨w.heap.size + 1, 0, none⟩ = some (.int .i64 7) := (blk_cell m2 0).trans rfl
  have k2 : u2.cell? ⟨w.heap.size + 1, 2, none⟩ = some (.slice A2 s.length c2) := (blk_cell m2 2).trans rfl
  have k4 : u2.cell? ⟨w.heap.size + 1, 4, none⟩ = some (.slice A4 1 c4) := (blk_cell m2 4).trans rfl
  have HT := Lib.hid (hT.below hbu)
  have HBS := Lib.hid (Kd.C_below hB hbu)
  have HL := Lib.hid hl
  have HBU := Lib.hid hbu
  have HC := Lib.hid (And.intro (Kd.C_below h2 hbu) (Kd.C_below h4 hbu))
  have hlb : bs.length < 100000001 := by omega
  obtain ⟨b4, o4, rfl, hb4⟩ := C_plain h4 (by simp) (by decide)
  obtain ⟨csa, _, hKa, hca⟩ := C_cell h4 (j := 0) (p := a) rfl
  obtain ⟨aA2, ac2, aA4, ac4, rfl, al2, aC2, al4, aC4⟩ := k26_open hKa
  have a0 : u2.cell? ⟨b4, o4, none⟩ = some (.int .i64 a.f0) := cell_b hbu (hca 0 _ rfl)
  have a1 : u2.cell? ⟨b4, o4 + 1, none⟩ = some (.int .i64 a.f1) := cell_b hbu (hca 1 _ rfl)
  have a2 : u2.cell? ⟨b4, o4 + 2, none⟩ = some (.slice aA2 a.f2.length ac2) := cell_b hbu (hca 2 _ rfl)
  have a3 : u2.cell? ⟨b4, o4 + 3, none⟩ = some (.string a.f3) := cell_b hbu (hca 3 _ rfl)
  have a4 : u2.cell? ⟨b4, o4 + 4, none⟩ = some (.slice aA4 a.f4.length ac4) := cell_b hbu (hca 4 _ rfl)
  have Ha := Lib.hid (And.intro (And.intro al2 al4) (And.intro (Kd.C_below aC2 hbu) (Kd.C_below aC4 hbu)))
  clear hKa hca aC2 aC4
  clear hT hB hl hbu h2 h4 m1 m1' m2 v1 v2
  have H1 := Lib.hid (fun (W9 : World) (h9 : Below u2.heap.size u2 W9) (xb ob cb : Nat) (bs : List Bool) (hl : bs.length = x.length + 1) (hcb : bs.length ≤ cb) (hB : Kd.C Kd.bool W9 (some ⟨xb, ob, none⟩) bs.length bs) => hW W9 aA2 aA4 ac2 ac4 xb ob cb bs (HT.out.below h9) Ha.out.1.1 Ha.out.1.2 (Kd.C_below Ha.out.2.1 h9) (Kd.C_below Ha.out.2.2 h9) hl hcb hB)
  have H2 := Lib.hid (fun (W9 : World) (h9 : Below u2.heap.size u2 W9) (xb ob cb : Nat) (bs : List Bool) (hl : bs.length = x.length + 1) (hcb : bs.length ≤ cb) (hB : Kd.C Kd.bool W9 (some ⟨xb, ob, none⟩) bs.length bs) => hS W9 aA2 aA4 ac2 ac4 xb ob cb bs (HT.out.below h9) Ha.out.1.1 Ha.out.1.2 (Kd.C_below Ha.out.2.1 h9) (Kd.C_below Ha.out.2.2 h9) hl hcb hB)
  clear hS hW
  have HCE := Lib.hid (fun (W9 : World) (h9 : Below u2.heap.size u2 W9) => (⟨cell_b h9 c0, cell_b h9 c1, cell_b h9 k4, cell_b h9 a0, cell_b h9 a1, cell_b h9 a2, cell_b h9 a3, cell_b h9 a4⟩ : W9.cell? ⟨w.heap.size, 0, none⟩ = some (.slice At x.length ct) ∧ W9.cell? ⟨w.heap.size, 1, none⟩ = some (.bool back) ∧ W9.cell? ⟨w.heap.size + 1, 4, none⟩ = some (.slice (some ⟨b4, o4, none⟩) 1 c4) ∧ W9.cell? ⟨b4, o4, none⟩ = some (.int .i64 a.f0) ∧ W9.cell? ⟨b4, o4 + 1, none⟩ = some (.int .i64 a.f1) ∧ W9.cell? ⟨b4, o4 + 2, none⟩ = some (.slice aA2 a.f2.length ac2) ∧ W9.cell? ⟨b4, o4 + 3, none⟩ = some (.string a.f3) ∧ W9.cell? ⟨b4, o4 + 4, none⟩ = some (.slice aA4 a.f4.length ac4)))
  go_enter Tryz.func79, Tryz.ntmps79
  go_wp2
  clear q1 q2
  go_region_held3 (fun w9 => w9.cell? ⟨w.heap.size, 0, none⟩ = some (.slice At x.length ct) ∧ w9.cell? ⟨w.heap.size, 1, none⟩ = some (.bool back) ∧ w9.cell? ⟨w.heap.size + 1, 4, none⟩ = some (.slice (some ⟨b4, o4, none⟩) 1 c4) ∧ w9.cell? ⟨b4, o4, none⟩ = some (.int .i64 a.f0) ∧ w9.cell? ⟨b4, o4 + 1, none⟩ = some (.int .i64 a.f1) ∧ w9.cell? ⟨b4, o4 + 2, none⟩ = some (.slice aA2 a.f2.length ac2) ∧ w9.cell? ⟨b4, o4 + 3, none⟩ = some (.string a.f3) ∧ w9.cell? ⟨b4, o4 + 4, none⟩ = some (.slice aA4 a.f4.length ac4)) (exact HCE.out _ (by repeat (first | exact Below.refl _ _ | assumption | apply below_drew | apply pw_below_drewN))) (first | (go_at_call 79; refine (H1.out _ (by repeat (first | exact Below.refl _ _ | assumption | apply below_drew | apply pw_below_drewN)) xb ob cb bs HL.out hcb (Kd.C_below HBS.out (by repeat (first | exact Below.refl _ _ | assumption | apply below_drew | apply pw_below_drewN)))).mono ?_; rintro e' wk ⟨bk, ok, ck, dk, rfl, hck, hLk, hCk, hbk⟩; have hBk := below_t (show Below u2.heap.size u2 _ by repeat (first | exact Below.refl _ _ | assumption | apply below_drew | apply pw_below_drewN)) hbk; clear hbk) | (go_at_call 107; refine (H2.out _ (by repeat (first | exact Below.refl _ _ | assumption | apply below_drew | apply pw_below_drewN)) bk ok ck dk hLk.len hck (by exact hCk)).mono ?_; rintro e' wz ⟨bz, oz, cz, dz, rfl, hcz, hLz, hCz, hbz⟩; have hBz := below_t (show Below u2.heap.size u2 _ by repeat (first | exact Below.refl _ _ | assumption | apply below_drew | apply pw_below_drewN)) hbz; clear hbz))
  have HX := Lib.hid (And.intro hLz (And.intro hCz (And.intro hBz hLk)))
  clear hLz hCz hBz hCk hBk hLk
  go_wp2
  go_ret
  exact ⟨bz, oz, cz, dz, rfl, hcz, leads_plus rfl rfl HX.out.2.2.2 HX.out.1, HX.out.2.1, HBU.out.trans (HX.out.2.2.1.mono (by omega))⟩
set_option maxRecDepth 100000 in
set_option maxHeartbeats 8000000 in
theorem walk_opt (x : List Int) (back : Bool) (At : Option Addr) (ct : Nat) (p : Int) (s : List Rg) (nm : ByteArray) (a : Nd) (hW : WalkOk 79 x back At ct a a) : WalkOk 79 x back At ct (⟨8, p, s, nm, [a]⟩ : Nd) ⟨8, p, s, nm, [a]⟩ := by
  intro w A2 A4 c2 c4 xb ob cb bs hT hl2 hl4 h2 h4 hl hcb hB
  dsimp only at hl2 hl4 h2 h4 ⊢
  have hlx := hT.len
  obtain ⟨u1, q1⟩ : ∃ u1, w.alloc (.cells #[.slice At x.length ct, .bool back] 121) = u1 := ⟨_, rfl⟩
  obtain ⟨u2, q2⟩ : ∃ u2, u1.alloc (.cells #[.int .i64 8, .int .i64 p, .slice A2 s.length c2, .string nm, .slice A4 1 c4] 26) = u2 := ⟨_, rfl⟩
  have z1 : u1.heap.size = w.heap.size + 1 := by rw [← q1]; simp
  have z2 : u2.heap.size = w.heap.size + 2 := by rw [← q2]; simp [z1]
  have v1 : Below w.heap.size w u1 := by rw [← q1]; exact (Below.refl _ w).alloc (Nat.le_refl _) _
  have m1 : u1.heap[w.heap.size]? = some (.cells #[.slice At x.length ct, .bool back] 121 (0, 0)) := by rw [← q1]; exact heap_alloc_new w _
  have v2 : Below u1.heap.size u1 u2 := by rw [← q2]; exact (Below.refl _ u1).alloc (Nat.le_refl _) _
  have m2 : u2.heap[w.heap.size + 1]? = some (.cells #[.int .i64 8, .int .i64 p, .slice A2 s.length c2, .string nm, .slice A4 1 c4] 26 (0, 0)) := by rw [← q2, ← z1]; exact heap_alloc_new u1 _
  have m1' : u2.heap[w.heap.size]? = some (.cells #[.slice At x.length ct, .bool back] 121 (0, 0)) := (v2.block _ (by omega)).trans m1
  have hbu : Below w.heap.size w u2 := v1.trans (v2.mono (by omega))
  have c0 : u2.cell? ⟨w.heap.size, 0, none⟩ = some (.slice At x.length ct) := (blk_cell m1' 0).trans rfl
  have c1 : u2.cell? ⟨w.heap.size, 1, none⟩ = some (.bool back) := (blk_cell m1' 1).trans rfl
  have k0 : u2.cell? ⟨w.heap.size + 1, 0, none⟩ = some (.int .i64 8) := (blk_cell m2 0).trans rfl
  have k2 : u2.cell? ⟨w.heap.size + 1, 2, none⟩ = some (.slice A2 s.length c2) := (blk_cell m2 2).trans rfl
  have k4 : u2.cell? ⟨w.heap.size + 1, 4, none⟩ = some (.slice A4 1 c4) := (blk_cell m2 4).trans rfl
  have HT := Lib.hid (hT.below hbu)
  have HBS := Lib.hid (Kd.C_below hB hbu)
  have HL := Lib.hid hl
  have HBU := Lib.hid hbu
  have HC := Lib.hid (And.intro (Kd.C_below h2 hbu) (Kd.C_below h4 hbu))
  have hlb : bs.length < 100000001 := by omega
  obtain ⟨b4, o4, rfl, hb4⟩ := C_plain h4 (by simp) (by decide)
  obtain ⟨csa, _, hKa, hca⟩ := C_cell h4 (j := 0) (p := a) rfl
  obtain ⟨aA2, ac2, aA4, ac4, rfl, al2, aC2, al4, aC4⟩ := k26_open hKa
  have a0 : u2.cell? ⟨b4, o4, none⟩ = some (.int .i64 a.f0) := cell_b hbu (hca 0 _ rfl)
  have a1 : u2.cell? ⟨b4, o4 + 1, none⟩ = some (.int .i64 a.f1) := cell_b hbu (hca 1 _ rfl)
  have a2 : u2.cell? ⟨b4, o4 + 2, none⟩ = some (.slice aA2 a.f2.length ac2) := cell_b hbu (hca 2 _ rfl)
  have a3 : u2.cell? ⟨b4, o4 + 3, none⟩ = some (.string a.f3) := cell_b hbu (hca 3 _ rfl)
  have a4 : u2.cell? ⟨b4, o4 + 4, none⟩ = some (.slice aA4 a.f4.length ac4) := cell_b hbu (hca 4 _ rfl)
  have Ha := Lib.hid (And.intro (And.intro al2 al4) (And.intro (Kd.C_below aC2 hbu) (Kd.C_below aC4 hbu)))
  clear hKa hca aC2 aC4
  clear hT hB hl hbu h2 h4 m1 m1' m2 v1 v2
  have H1 := Lib.hid (fun (W9 : World) (h9 : Below u2.heap.size u2 W9) (xb ob cb : Nat) (bs : List Bool) (hl : bs.length = x.length + 1) (hcb : bs.length ≤ cb) (hB : Kd.C Kd.bool W9 (some ⟨xb, ob, none⟩) bs.length bs) => hW W9 aA2 aA4 ac2 ac4 xb ob cb bs (HT.out.below h9) Ha.out.1.1 Ha.out.1.2 (Kd.C_below Ha.out.2.1 h9) (Kd.C_below Ha.out.2.2 h9) hl hcb hB)
  clear hW
  have HCE := Lib.hid (fun (W9 : World) (h9 : Below u2.heap.size u2 W9) => (⟨cell_b h9 c0, cell_b h9 c1, cell_b h9 k4, cell_b h9 a0, cell_b h9 a1, cell_b h9 a2, cell_b h9 a3, cell_b h9 a4⟩ : W9.cell? ⟨w.heap.size, 0, none⟩ = some (.slice At x.length ct) ∧ W9.cell? ⟨w.heap.size, 1, none⟩ = some (.bool back) ∧ W9.cell? ⟨w.heap.size + 1, 4, none⟩ = some (.slice (some ⟨b4, o4, none⟩) 1 c4) ∧ W9.cell? ⟨b4, o4, none⟩ = some (.int .i64 a.f0) ∧ W9.cell? ⟨b4, o4 + 1, none⟩ = some (.int .i64 a.f1) ∧ W9.cell? ⟨b4, o4 + 2, none⟩ = some (.slice aA2 a.f2.length ac2) ∧ W9.cell? ⟨b4, o4 + 3, none⟩ = some (.string a.f3) ∧ W9.cell? ⟨b4, o4 + 4, none⟩ = some (.slice aA4 a.f4.length ac4)))
  go_enter Tryz.func79, Tryz.ntmps79
  go_wp2
  clear q1 q2
  go_region_held3 (fun w9 => w9.cell? ⟨w.heap.size, 0, none⟩ = some (.slice At x.length ct) ∧ w9.cell? ⟨w.heap.size, 1, none⟩ = some (.bool back) ∧ w9.cell? ⟨w.heap.size + 1, 4, none⟩ = some (.slice (some ⟨b4, o4, none⟩) 1 c4) ∧ w9.cell? ⟨b4, o4, none⟩ = some (.int .i64 a.f0) ∧ w9.cell? ⟨b4, o4 + 1, none⟩ = some (.int .i64 a.f1) ∧ w9.cell? ⟨b4, o4 + 2, none⟩ = some (.slice aA2 a.f2.length ac2) ∧ w9.cell? ⟨b4, o4 + 3, none⟩ = some (.string a.f3) ∧ w9.cell? ⟨b4, o4 + 4, none⟩ = some (.slice aA4 a.f4.length ac4)) (exact HCE.out _ (by repeat (first | exact Below.refl _ _ | assumption | apply below_drew | apply pw_below_drewN))) (first | (go_at_call 79; refine (H1.out _ (by repeat (first | exact Below.refl _ _ | assumption | apply below_drew | apply pw_below_drewN)) xb ob cb bs HL.out hcb (Kd.C_below HBS.out (by repeat (first | exact Below.refl _ _ | assumption | apply below_drew | apply pw_below_drewN)))).mono ?_; rintro e' wk ⟨bk, ok, ck, dk, rfl, hck, hLk, hCk, hbk⟩; have hBk := below_t (show Below u2.heap.size u2 _ by repeat (first | exact Below.refl _ _ | assumption | apply below_drew | apply pw_below_drewN)) hbk; clear hbk) | (go_at_call 106; refine (or_calls xb ob cb bk ok ck bs dk (HL.out.trans hLk.len.symm) (by rw [HL.out]; omega) (by rw [HL.out]; omega) _ (Kd.C_below HBS.out (by repeat (first | exact Below.refl _ _ | assumption | apply below_drew | apply pw_below_drewN))) (by exact hCk)).mono ?_; rintro e' wv ⟨v, rfl, hR, hbv⟩; have hol := or_len (a := bs) (b := dk) (HL.out.trans hLk.len.symm); obtain ⟨gv, cv, rfl, hcv, _, _, hCv⟩ := boolrow hR (by rw [hol, HL.out]; omega); have hBv := below_t (show Below u2.heap.size u2 _ by repeat (first | exact Below.refl _ _ | assumption | apply below_drew | apply pw_below_drewN)) hbv; clear hR hbv hol))
  have HX := Lib.hid (And.intro hLk (And.intro hCv hBv))
  clear hLk hCv hBv hCk hBk
  go_wp2
  go_ret
  exact ⟨gv, 0, cv, orL bs dk, rfl, hcv, leads_opt rfl rfl HL.out HX.out.1, HX.out.2.1, HBU.out.trans (HX.out.2.2.mono (by omega))⟩
end Go.Proofs.YtfinjenkgpndlaaGreatDoor.PA

namespace Go.Proofs.YtfinjenkgpndlaaGreatDoor.PA
open Go.RowKit Go.Shelf Go.Proofs.YtfinjenkgpndlaaGreatDoorW.PrintWords Go.Proofs.YtfinjenkgpndlaaGreatDoorW.PrintLast Go.Proofs.YtfinjenkgpndlaaGreatDoorW.PrintMore
attribute [local go_sem] Oper.semAt_some
set_option linter.unusedVariables false
set_option linter.unusedSimpArgs false

set_option maxRecDepth 100000 in
set_option maxHeartbeats 8000000 in
theorem walk_alt (x : List Int) (back : Bool) (At : Option Addr) (ct : Nat) (p : Int) (s : List Rg) (nm : ByteArray) (a b : Nd) (hW : WalkOk 79 x back At ct a a) (hV : WalkOk 79 x back At ct b b) : WalkOk 79 x back At ct (⟨5, p, s, nm, [a, b]⟩ : Nd) ⟨5, p, s, nm, [a, b]⟩ := by
  intro w A2 A4 c2 c4 xb ob cb bs hT hl2 hl4 h2 h4 hl hcb hB
  dsimp only at hl2 hl4 h2 h4 ⊢
  have hlx := hT.len
  obtain ⟨u1, q1⟩ : ∃ u1, w.alloc (.cells #[.slice At x.length ct, .bool back] 121) = u1 := ⟨_, rfl⟩
  obtain ⟨u2, q2⟩ : ∃ u2, u1.alloc (.cells #[.int .i64 5, .int .i64 p, .slice A2 s.length c2, .string nm, .slice A4 2 c4] 26) = u2 := ⟨_, rfl⟩
  have z1 : u1.heap.size = w.heap.size + 1 := by rw [← q1]; simp
  have z2 : u2.heap.size = w.heap.size + 2 := by rw [← q2]; simp [z1]
  have v1 : Below w.heap.size w u1 := by rw [← q1]; exact (Below.refl _ w).alloc (Nat.le_refl _) _
  have m1 : u1.heap[w.heap.size]? = some (.cells #[.slice At x.length ct, .bool back] 121 (0, 0)) := by rw [← q1]; exact heap_alloc_new w _
  have v2 : Below u1.heap.size u1 u2 := by rw [← q2]; exact (Below.refl _ u1).alloc (Nat.le_refl _) _
  have m2 : u2.heap[w.heap.size + 1]? = some (.cells #[.int .i64 5, .int .i64 p, .slice A2 s.length c2, .string nm, .slice A4 2 c4] 26 (0, 0)) := by rw [← q2, ← z1]; exact heap_alloc_new u1 _
  have m1' : u2.heap[w.heap.size]? = some (.cells #[.slice At x.length ct, .bool back] 121 (0, 0)) := (v2.block _ (by omega)).trans m1
  have hbu : Below w.heap.size w u2 := v1.trans (v2.mono (by omega))
  have c0 : u2.cell? ⟨w.heap.size, 0, none⟩ = some (.slice At x.length ct) := (blk_cell m1' 0).trans rfl
  have c1 : u2.cell? ⟨w.heap.size, 1, none⟩ = some (.bool back) := (blk_cell m1' 1).trans rfl
  have k0 : u2.cell? ⟨w.heap.size + 1, 0, none⟩ = some (.int .i64 5) := (blk_cell m2 0).trans rfl
  have k2 : u2.cell? ⟨w.heap.size + 1, 2, none⟩ = some (.slice A2 s.length c2) := (blk_cell m2 2).trans rfl
  have k4 : u2.cell? ⟨w.heap.size + 1, 4, none⟩ = some (.slice A4 2 c4) := (blk_cell m2 4).trans rfl
  have HT := Lib.hid (hT.below hbu)
  have HBS := Lib.hid (Kd.C_below hB hbu)
  have HL := Lib.hid hl
  have HBU := Lib.hid hbu
  have HC := Lib.hid (And.intro (Kd.C_below h2 hbu) (Kd.C_below h4 hbu))
  have hlb : bs.length < 100000001 := by omega
  obtain ⟨b4, o4, rfl, hb4⟩ := C_plain h4 (by simp) (by decide)
  obtain ⟨csa, _, hKa, hca⟩ := C_cell h4 (j := 0) (p := a) rfl
  obtain ⟨aA2, ac2, aA4, ac4, rfl, al2, aC2, al4, aC4⟩ := k26_open hKa
  have ax0 : u2.cell? ⟨b4, o4, none⟩ = some (.int .i64 a.f0) := cell_b hbu (hca 0 _ rfl)
  have ax1 : u2.cell? ⟨b4, o4 + 1, none⟩ = some (.int .i64 a.f1) := cell_b hbu (hca 1 _ rfl)
  have ax2 : u2.cell? ⟨b4, o4 + 2, none⟩ = some (.slice aA2 a.f2.length ac2) := cell_b hbu (hca 2 _ rfl)
  have ax3 : u2.cell? ⟨b4, o4 + 3, none⟩ = some (.string a.f3) := cell_b hbu (hca 3 _ rfl)
  have ax4 : u2.cell? ⟨b4, o4 + 4, none⟩ = some (.slice aA4 a.f4.length ac4) := cell_b hbu (hca 4 _ rfl)
  have Ha := Lib.hid (And.intro (And.intro al2 al4) (And.intro (Kd.C_below aC2 hbu) (Kd.C_below aC4 hbu)))
  clear hKa hca aC2 aC4
  obtain ⟨csb, _, hKb, hcb⟩ := C_cell h4 (j := 1) (p := b) rfl
  obtain ⟨bA2, bc2, bA4, bc4, rfl, bl2, bC2, bl4, bC4⟩ := k26_open hKb
  have bx0 : u2.cell? ⟨b4, o4 + 5, none⟩ = some (.int .i64 b.f0) := cell_b hbu (hcb 0 _ rfl)
  have bx1 : u2.cell? ⟨b4, o4 + 6, none⟩ = some (.int .i64 b.f1) := cell_b hbu (hcb 1 _ rfl)
  have bx2 : u2.cell? ⟨b4, o4 + 7, none⟩ = some (.slice bA2 b.f2.length bc2) := cell_b hbu (hcb 2 _ rfl)
  have bx3 : u2.cell? ⟨b4, o4 + 8, none⟩ = some (.string b.f3) := cell_b hbu (hcb 3 _ rfl)
  have bx4 : u2.cell? ⟨b4, o4 + 9, none⟩ = some (.slice bA4 b.f4.length bc4) := cell_b hbu (hcb 4 _ rfl)
  have Hb := Lib.hid (And.intro (And.intro bl2 bl4) (And.intro (Kd.C_below bC2 hbu) (Kd.C_below bC4 hbu)))
  clear hKb hcb bC2 bC4
  clear hT hB hl hbu h2 h4 m1 m1' m2 v1 v2
  have H1 := Lib.hid (fun (W9 : World) (h9 : Below u2.heap.size u2 W9) (xb ob cb : Nat) (bs : List Bool) (hl : bs.length = x.length + 1) (hcb : bs.length ≤ cb) (hB : Kd.C Kd.bool W9 (some ⟨xb, ob, none⟩) bs.length bs) => hW W9 aA2 aA4 ac2 ac4 xb ob cb bs (HT.out.below h9) Ha.out.1.1 Ha.out.1.2 (Kd.C_below Ha.out.2.1 h9) (Kd.C_below Ha.out.2.2 h9) hl hcb hB)
  have H2 := Lib.hid (fun (W9 : World) (h9 : Below u2.heap.size u2 W9) (xb ob cb : Nat) (bs : List Bool) (hl : bs.length = x.length + 1) (hcb : bs.length ≤ cb) (hB : Kd.C Kd.bool W9 (some ⟨xb, ob, none⟩) bs.length bs) => hV W9 bA2 bA4 bc2 bc4 xb ob cb bs (HT.out.below h9) Hb.out.1.1 Hb.out.1.2 (Kd.C_below Hb.out.2.1 h9) (Kd.C_below Hb.out.2.2 h9) hl hcb hB)
  clear hW hV
  have HCE := Lib.hid (fun (W9 : World) (h9 : Below u2.heap.size u2 W9) => (⟨cell_b h9 c0, cell_b h9 c1, cell_b h9 k4, cell_b h9 ax0, cell_b h9 ax1, cell_b h9 ax2, cell_b h9 ax3, cell_b h9 ax4, cell_b h9 bx0, cell_b h9 bx1, cell_b h9 bx2, cell_b h9 bx3, cell_b h9 bx4⟩ : W9.cell? ⟨w.heap.size, 0, none⟩ = some (.slice At x.length ct) ∧ W9.cell? ⟨w.heap.size, 1, none⟩ = some (.bool back) ∧ W9.cell? ⟨w.heap.size + 1, 4, none⟩ = some (.slice (some ⟨b4, o4, none⟩) 2 c4) ∧ W9.cell? ⟨b4, o4, none⟩ = some (.int .i64 a.f0) ∧ W9.cell? ⟨b4, o4 + 1, none⟩ = some (.int .i64 a.f1) ∧ W9.cell? ⟨b4, o4 + 2, none⟩ = some (.slice aA2 a.f2.length ac2) ∧ W9.cell? ⟨b4, o4 + 3, none⟩ = some (.string a.f3) ∧ W9.cell? ⟨b4, o4 + 4, none⟩ = some (.slice aA4 a.f4.length ac4) ∧ W9.cell? ⟨b4, o4 + 5, none⟩ = some (.int .i64 b.f0) ∧ W9.cell? ⟨b4, o4 + 6, none⟩ = some (.int .i64 b.f1) ∧ W9.cell? ⟨b4, o4 + 7, none⟩ = some (.slice bA2 b.f2.length bc2) ∧ W9.cell? ⟨b4, o4 + 8, none⟩ = some (.string b.f3) ∧ W9.cell? ⟨b4, o4 + 9, none⟩ = some (.slice bA4 b.f4.length bc4)))
  go_enter Tryz.func79, Tryz.ntmps79
  go_wp2
  clear q1 q2
  go_region_held3 (fun w9 => w9.cell? ⟨w.heap.size, 0, none⟩ = some (.slice At x.length ct) ∧ w9.cell? ⟨w.heap.size, 1, none⟩ = some (.bool back) ∧ w9.cell? ⟨w.heap.size + 1, 4, none⟩ = some (.slice (some ⟨b4, o4, none⟩) 2 c4) ∧ w9.cell? ⟨b4, o4, none⟩ = some (.int .i64 a.f0) ∧ w9.cell? ⟨b4, o4 + 1, none⟩ = some (.int .i64 a.f1) ∧ w9.cell? ⟨b4, o4 + 2, none⟩ = some (.slice aA2 a.f2.length ac2) ∧ w9.cell? ⟨b4, o4 + 3, none⟩ = some (.string a.f3) ∧ w9.cell? ⟨b4, o4 + 4, none⟩ = some (.slice aA4 a.f4.length ac4) ∧ w9.cell? ⟨b4, o4 + 5, none⟩ = some (.int .i64 b.f0) ∧ w9.cell? ⟨b4, o4 + 6, none⟩ = some (.int .i64 b.f1) ∧ w9.cell? ⟨b4, o4 + 7, none⟩ = some (.slice bA2 b.f2.length bc2) ∧ w9.cell? ⟨b4, o4 + 8, none⟩ = some (.string b.f3) ∧ w9.cell? ⟨b4, o4 + 9, none⟩ = some (.slice bA4 b.f4.length bc4)) (exact HCE.out _ (by repeat (first | exact Below.refl _ _ | assumption | apply below_drew | apply pw_below_drewN))) (first | (go_at_call 79; refine (H1.out _ (by repeat (first | exact Below.refl _ _ | assumption | apply below_drew | apply pw_below_drewN)) xb ob cb bs HL.out hcb (Kd.C_below HBS.out (by repeat (first | exact Below.refl _ _ | assumption | apply below_drew | apply pw_below_drewN)))).mono ?_; rintro e' wk ⟨bk, ok, ck, dk, rfl, hck, hLk, hCk, hbk⟩; (try (first | replace hCm := Kd.C_below hCm hbk | replace hCm := Kd.C_below hCm (bl_undrewN hbk) | replace hCm := Kd.C_below hCm (bl_undrew hbk))); have hBk := below_t (show Below u2.heap.size u2 _ by repeat (first | exact Below.refl _ _ | assumption | apply below_drew | apply pw_below_drewN)) hbk; clear hbk H1) | (go_at_call 79; refine (H2.out _ (by repeat (first | exact Below.refl _ _ | assumption | apply below_drew | apply pw_below_drewN)) xb ob cb bs HL.out hcb (Kd.C_below HBS.out (by repeat (first | exact Below.refl _ _ | assumption | apply below_drew | apply pw_below_drewN)))).mono ?_; rintro e' wm ⟨bm, om, cm, dm, rfl, hcm, hLm, hCm, hbm⟩; (try (first | replace hCk := Kd.C_below hCk hbm | replace hCk := Kd.C_below hCk (bl_undrewN hbm) | replace hCk := Kd.C_below hCk (bl_undrew hbm))); have hBm := below_t (show Below u2.heap.size u2 _ by repeat (first | exact Below.refl _ _ | assumption | apply below_drew | apply pw_below_drewN)) hbm; clear hbm H2) | (go_at_call 106; refine (or_calls bk ok ck bm om cm dk dm (hLk.len.trans hLm.len.symm) (by rw [hLk.len]; omega) (by rw [hLk.len]; omega) _ (by exact hCk) (by exact hCm)).mono ?_; rintro e' wv ⟨v, rfl, hR, hbv⟩; have hol := or_len (a := dk) (b := dm) (hLk.len.trans hLm.len.symm); obtain ⟨gv, cv, rfl, hcv, _, _, hCv⟩ := boolrow hR (by rw [hol, hLk.len]; omega); have hBv := below_t (show Below u2.heap.size u2 _ by repeat (first | exact Below.refl _ _ | assumption | apply below_drew | apply pw_below_drewN)) hbv; clear hR hbv hol))
  all_goals
    have HX := Lib.hid (And.intro hLk (And.intro hLm (And.intro hCv hBv)))
    clear hLk hLm hCv hBv hCk hCm hBk hBm
    go_wp2
    go_ret
    exact ⟨gv, 0, cv, orL dk dm, rfl, hcv, leads_alt rfl rfl HX.out.1 HX.out.2.1, HX.out.2.2.1, HBU.out.trans (HX.out.2.2.2.mono (by omega))⟩
end Go.Proofs.YtfinjenkgpndlaaGreatDoor.PA

namespace Go.Proofs.YtfinjenkgpndlaaGreatDoor.PA
open Go.RowKit Go.Shelf Go.Proofs.YtfinjenkgpndlaaGreatDoorW.PrintWords Go.Proofs.YtfinjenkgpndlaaGreatDoorW.PrintLast Go.Proofs.YtfinjenkgpndlaaGreatDoorW.PrintMore
attribute [local go_sem] Oper.semAt_some
set_option linter.unusedVariables false
set_option linter.unusedSimpArgs false

theorem two_box (u : World) (A B : Array Value) (t : TypeId) : (((u.alloc (.cells A t)).alloc (.cells B t)).drew).heap[u.heap.size]? = some (.cells A t (0, 0)) ∧ (((u.alloc (.cells A t)).alloc (.cells B t)).drew).heap[u.heap.size + 1]? = some (.cells B t (0, 0)) ∧ Below u.heap.size u (((u.alloc (.cells A t)).alloc (.cells B t)).drew) := by
  have h1 : (u.alloc (.cells A t)).heap.size = u.heap.size + 1 := by simp
  refine ⟨?_, ?_, below_drew ((((Below.refl _ u).alloc (Nat.le_refl _) _).alloc (by simp) _))⟩
  · show ((u.alloc (.cells A t)).alloc (.cells B t)).heap[u.heap.size]? = _
    exact (Below.heap_alloc _ _ _ (by rw [h1]; omega)).trans (heap_alloc_new u _)
  · show ((u.alloc (.cells A t)).alloc (.cells B t)).heap[u.heap.size + 1]? = _
    rw [← h1]
    exact heap_alloc_new _ _
set_option maxRecDepth 100000 in
set_option maxHeartbeats 8000000 in
theorem walk_cat_false (x : List Int) (At : Option Addr) (ct : Nat) (p : Int) (s : List Rg) (nm : ByteArray) (a b : Nd) (hW : WalkOk 79 x false At ct a a) (hV : WalkOk 79 x false At ct b b) : WalkOk 79 x false At ct (⟨4, p, s, nm, [a, b]⟩ : Nd) ⟨4, p, s, nm, [a, b]⟩ := by
  intro w A2 A4 c2 c4 xb ob cb bs hT hl2 hl4 h2 h4 hl hcb hB
  dsimp only at hl2 hl4 h2 h4 ⊢
  have hlx := hT.len
  obtain ⟨u1, q1⟩ : ∃ u1, w.alloc (.cells #[.slice At x.length ct, .bool false] 121) = u1 := ⟨_, rfl⟩
  obtain ⟨u2, q2⟩ : ∃ u2, u1.alloc (.cells #[.int .i64 4, .int .i64 p, .slice A2 s.length c2, .string nm, .slice A4 2 c4] 26) = u2 := ⟨_, rfl⟩
  have z1 : u1.heap.size = w.heap.size + 1 := by rw [← q1]; simp
  have z2 : u2.heap.size = w.heap.size + 2 := by rw [← q2]; simp [z1]
  have v1 : Below w.heap.size w u1 := by rw [← q1]; exact (Below.refl _ w).alloc (Nat.le_refl _) _
  have m1 : u1.heap[w.heap.size]? = some (.cells #[.slice At x.length ct, .bool false] 121 (0, 0)) := by rw [← q1]; exact heap_alloc_new w _
  have v2 : Below u1.heap.size u1 u2 := by rw [← q2]; exact (Below.refl _ u1).alloc (Nat.le_refl _) _
  have m2 : u2.heap[w.heap.size + 1]? = some (.cells #[.int .i64 4, .int .i64 p, .slice A2 s.length c2, .string nm, .slice A4 2 c4] 26 (0, 0)) := by rw [← q2, ← z1]; exact heap_alloc_new u1 _
  have m1' : u2.heap[w.heap.size]? = some (.cells #[.slice At x.length ct, .bool false] 121 (0, 0)) := (v2.block _ (by omega)).trans m1
  have hbu : Below w.heap.size w u2 := v1.trans (v2.mono (by omega))
  have c0 : u2.cell? ⟨w.heap.size, 0, none⟩ = some (.slice At x.length ct) := (blk_cell m1' 0).trans rfl
  have c1 : u2.cell? ⟨w.heap.size, 1, none⟩ = some (.bool false) := (blk_cell m1' 1).trans rfl
  have k0 : u2.cell? ⟨w.heap.size + 1, 0, none⟩ = some (.int .i64 4) := (blk_cell m2 0).trans rfl
  have k2 : u2.cell? ⟨w.heap.size + 1, 2, none⟩ = some (.slice A2 s.length c2) := (blk_cell m2 2).trans rfl
  have k4 : u2.cell? ⟨w.heap.size + 1, 4, none⟩ = some (.slice A4 2 c4) := (blk_cell m2 4).trans rfl
  have HT := Lib.hid (hT.below hbu)
  have HBS := Lib.hid (Kd.C_below hB hbu)
  have HL := Lib.hid hl
  have HBU := Lib.hid hbu
  have HC := Lib.hid (And.intro (Kd.C_below h2 hbu) (Kd.C_below h4 hbu))
  have hlb : bs.length < 100000001 := by omega
  obtain ⟨b4, o4, rfl, hb4⟩ := C_plain h4 (by simp) (by decide)
  obtain ⟨csa, _, hKa, hca⟩ := C_cell h4 (j := 0) (p := a) rfl
  obtain ⟨aA2, ac2, aA4, ac4, rfl, al2, aC2, al4, aC4⟩ := k26_open hKa
  have ax0 : u2.cell? ⟨b4, o4, none⟩ = some (.int .i64 a.f0) := cell_b hbu (hca 0 _ rfl)
  have ax1 : u2.cell? ⟨b4, o4 + 1, none⟩ = some (.int .i64 a.f1) := cell_b hbu (hca 1 _ rfl)
  have ax2 : u2.cell? ⟨b4, o4 + 2, none⟩ = some (.slice aA2 a.f2.length ac2) := cell_b hbu (hca 2 _ rfl)
  have ax3 : u2.cell? ⟨b4, o4 + 3, none⟩ = some (.string a.f3) := cell_b hbu (hca 3 _ rfl)
  have ax4 : u2.cell? ⟨b4, o4 + 4, none⟩ = some (.slice aA4 a.f4.length ac4) := cell_b hbu (hca 4 _ rfl)
  have Ha := Lib.hid (And.intro (And.intro al2 al4) (And.intro (Kd.C_below aC2 hbu) (Kd.C_below aC4 hbu)))
  clear hKa hca aC2 aC4
  obtain ⟨csb, _, hKb, hcb⟩ := C_cell h4 (j := 1) (p := b) rfl
  obtain ⟨bA2, bc2, bA4, bc4, rfl, bl2, bC2, bl4, bC4⟩ := k26_open hKb
  have bx0 : u2.cell? ⟨b4, o4 + 5, none⟩ = some (.int .i64 b.f0) := cell_b hbu (hcb 0 _ rfl)
  have bx1 : u2.cell? ⟨b4, o4 + 6, none⟩ = some (.int .i64 b.f1) := cell_b hbu (hcb 1 _ rfl)
  have bx2 : u2.cell? ⟨b4, o4 + 7, none⟩ = some (.slice bA2 b.f2.length bc2) := cell_b hbu (hcb 2 _ rfl)
  have bx3 : u2.cell? ⟨b4, o4 + 8, none⟩ = some (.string b.f3) := cell_b hbu (hcb 3 _ rfl)
  have bx4 : u2.cell? ⟨b4, o4 + 9, none⟩ = some (.slice bA4 b.f4.length bc4) := cell_b hbu (hcb 4 _ rfl)
  have Hb := Lib.hid (And.intro (And.intro bl2 bl4) (And.intro (Kd.C_below bC2 hbu) (Kd.C_below bC4 hbu)))
  clear hKb hcb bC2 bC4
  clear hT hB hl hbu h2 h4 m1 m1' m2 v1 v2
  have H1 := Lib.hid (fun (W9 : World) (h9 : Below u2.heap.size u2 W9) (xb ob cb : Nat) (bs : List Bool) (hl : bs.length = x.length + 1) (hcb : bs.length ≤ cb) (hB : Kd.C Kd.bool W9 (some ⟨xb, ob, none⟩) bs.length bs) => hW W9 aA2 aA4 ac2 ac4 xb ob cb bs (HT.out.below h9) Ha.out.1.1 Ha.out.1.2 (Kd.C_below Ha.out.2.1 h9) (Kd.C_below Ha.out.2.2 h9) hl hcb hB)
  have H2 := Lib.hid (fun (W9 : World) (h9 : Below u2.heap.size u2 W9) (xb ob cb : Nat) (bs : List Bool) (hl : bs.length = x.length + 1) (hcb : bs.length ≤ cb) (hB : Kd.C Kd.bool W9 (some ⟨xb, ob, none⟩) bs.length bs) => hV W9 bA2 bA4 bc2 bc4 xb ob cb bs (HT.out.below h9) Hb.out.1.1 Hb.out.1.2 (Kd.C_below Hb.out.2.1 h9) (Kd.C_below Hb.out.2.2 h9) hl hcb hB)
  clear hW hV
  have HCE := Lib.hid (fun (W9 : World) (h9 : Below u2.heap.size u2 W9) => (⟨cell_b h9 c0, cell_b h9 c1, cell_b h9 k4, cell_b h9 ax0, cell_b h9 ax1, cell_b h9 ax2, cell_b h9 ax3, cell_b h9 ax4, cell_b h9 bx0, cell_b h9 bx1, cell_b h9 bx2, cell_b h9 bx3, cell_b h9 bx4⟩ : W9.cell? ⟨w.heap.size, 0, none⟩ = some (.slice At x.length ct) ∧ W9.cell? ⟨w.heap.size, 1, none⟩ = some (.bool false) ∧ W9.cell? ⟨w.heap.size + 1, 4, none⟩ = some (.slice (some ⟨b4, o4, none⟩) 2 c4) ∧ W9.cell? ⟨b4, o4, none⟩ = some (.int .i64 a.f0) ∧ W9.cell? ⟨b4, o4 + 1, none⟩ = some (.int .i64 a.f1) ∧ W9.cell? ⟨b4, o4 + 2, none⟩ = some (.slice aA2 a.f2.length ac2) ∧ W9.cell? ⟨b4, o4 + 3, none⟩ = some (.string a.f3) ∧ W9.cell? ⟨b4, o4 + 4, none⟩ = some (.slice aA4 a.f4.length ac4) ∧ W9.cell? ⟨b4, o4 + 5, none⟩ = some (.int .i64 b.f0) ∧ W9.cell? ⟨b4, o4 + 6, none⟩ = some (.int .i64 b.f1) ∧ W9.cell? ⟨b4, o4 + 7, none⟩ = some (.slice bA2 b.f2.length bc2) ∧ W9.cell? ⟨b4, o4 + 8, none⟩ = some (.string b.f3) ∧ W9.cell? ⟨b4, o4 + 9, none⟩ = some (.slice bA4 b.f4.length bc4)))
  go_enter Tryz.func79, Tryz.ntmps79
  go_wp2
  clear q1 q2
  go_region_held3 (fun w9 => w9.cell? ⟨w.heap.size, 0, none⟩ = some (.slice At x.length ct) ∧ w9.cell? ⟨w.heap.size, 1, none⟩ = some (.bool false) ∧ w9.cell? ⟨w.heap.size + 1, 4, none⟩ = some (.slice (some ⟨b4, o4, none⟩) 2 c4) ∧ w9.cell? ⟨b4, o4, none⟩ = some (.int .i64 a.f0) ∧ w9.cell? ⟨b4, o4 + 1, none⟩ = some (.int .i64 a.f1) ∧ w9.cell? ⟨b4, o4 + 2, none⟩ = some (.slice aA2 a.f2.length ac2) ∧ w9.cell? ⟨b4, o4 + 3, none⟩ = some (.string a.f3) ∧ w9.cell? ⟨b4, o4 + 4, none⟩ = some (.slice aA4 a.f4.length ac4) ∧ w9.cell? ⟨b4, o4 + 5, none⟩ = some (.int .i64 b.f0) ∧ w9.cell? ⟨b4, o4 + 6, none⟩ = some (.int .i64 b.f1) ∧ w9.cell? ⟨b4, o4 + 7, none⟩ = some (.slice bA2 b.f2.length bc2) ∧ w9.cell? ⟨b4, o4 + 8, none⟩ = some (.string b.f3) ∧ w9.cell? ⟨b4, o4 + 9, none⟩ = some (.slice bA4 b.f4.length bc4)) (exact HCE.out _ (by repeat (first | exact Below.refl _ _ | assumption | apply below_drew | apply pw_below_drewN | (refine Below.alloc ?_ (by simp) _) | (refine Below.setCell ?_ (by simp) _)))) (fail)
  all_goals (try rename_i hHeld)
  all_goals (try clear hHeld)
  all_goals first
    | (have hP := two_box u2 #[.int .i64 a.f0, .int .i64 a.f1, .slice aA2 a.f2.length ac2, .string a.f3, .slice aA4 a.f4.length ac4] #[.int .i64 b.f0, .int .i64 b.f1, .slice bA2 b.f2.length bc2, .string b.f3, .slice bA4 b.f4.length bc4] 26; obtain ⟨wX, hwX⟩ : ∃ wX, ((u2.alloc (.cells #[.int .i64 a.f0, .int .i64 a.f1, .slice aA2 a.f2.length ac2, .string a.f3, .slice aA4 a.f4.length ac4] 26)).alloc (.cells #[.int .i64 b.f0, .int .i64 b.f1, .slice bA2 b.f2.length bc2, .string b.f3, .slice bA4 b.f4.length bc4] 26)).drew = wX := ⟨_, rfl⟩; rw [hwX] at hP ⊢; clear hwX; obtain ⟨hp7, hp8, hpb⟩ := hP; rw [z2] at hp7 hp8; have h78 : ¬ (w.heap.size + 2 + 1 = w.heap.size + 2) := (by omega); have h87 : ¬ (w.heap.size + 2 = w.heap.size + 2 + 1) := (by omega); have g8 : w.heap.size + 2 ≤ w.heap.size + 2 + 1 := (by omega); have g7 : w.heap.size + 2 ≤ w.heap.size + 2 := Nat.le_refl _; generalize hq8 : w.heap.size + 2 + 1 = B8 at hp8 h78 h87 g8 ⊢; generalize hq7 : w.heap.size + 2 = B7 at hp7 h78 h87 ⊢; have G7 := Lib.hid (show u2.heap.size ≤ B7 from (by omega)); have G8 := Lib.hid (show u2.heap.size ≤ B8 from (by omega)); clear hq7 hq8 g7 g8)
    | (have hP := two_box u2 #[.int .i64 b.f0, .int .i64 b.f1, .slice bA2 b.f2.length bc2, .string b.f3, .slice bA4 b.f4.length bc4] #[.int .i64 a.f0, .int .i64 a.f1, .slice aA2 a.f2.length ac2, .string a.f3, .slice aA4 a.f4.length ac4] 26; obtain ⟨wX, hwX⟩ : ∃ wX, ((u2.alloc (.cells #[.int .i64 b.f0, .int .i64 b.f1, .slice bA2 b.f2.length bc2, .string b.f3, .slice bA4 b.f4.length bc4] 26)).alloc (.cells #[.int .i64 a.f0, .int .i64 a.f1, .slice aA2 a.f2.length ac2, .string a.f3, .slice aA4 a.f4.length ac4] 26)).drew = wX := ⟨_, rfl⟩; rw [hwX] at hP ⊢; clear hwX; obtain ⟨hp8, hp7, hpb⟩ := hP; rw [z2] at hp7 hp8; have h78 : ¬ (w.heap.size + 2 + 1 = w.heap.size + 2) := (by omega); have h87 : ¬ (w.heap.size + 2 = w.heap.size + 2 + 1) := (by omega); have g7 : w.heap.size + 2 ≤ w.heap.size + 2 + 1 := (by omega); have g8 : w.heap.size + 2 ≤ w.heap.size + 2 := Nat.le_refl _; generalize hq8 : w.heap.size + 2 + 1 = B7 at hp7 h78 h87 g7 ⊢; generalize hq7 : w.heap.size + 2 = B8 at hp8 h78 h87 ⊢; have G8 := Lib.hid (show u2.heap.size ≤ B8 from (by omega)); have G7 := Lib.hid (show u2.heap.size ≤ B7 from (by omega)); clear hq7 hq8 g7 g8)
  all_goals
    have w0 := cell_b hpb c0
    have w1 := cell_b hpb c1
    have t0 : wX.cell? ⟨B7, 0, none⟩ = some (.int .i64 a.f0) := (blk_cell hp7 0).trans rfl
    have t1 : wX.cell? ⟨B7, 1, none⟩ = some (.int .i64 a.f1) := (blk_cell hp7 1).trans rfl
    have t2 : wX.cell? ⟨B7, 2, none⟩ = some (.slice aA2 a.f2.length ac2) := (blk_cell hp7 2).trans rfl
    have t3 : wX.cell? ⟨B7, 3, none⟩ = some (.string a.f3) := (blk_cell hp7 3).trans rfl
    have t4 : wX.cell? ⟨B7, 4, none⟩ = some (.slice aA4 a.f4.length ac4) := (blk_cell hp7 4).trans rfl
    have y0 : wX.cell? ⟨B8, 0, none⟩ = some (.int .i64 b.f0) := (blk_cell hp8 0).trans rfl
    have y1 : wX.cell? ⟨B8, 1, none⟩ = some (.int .i64 b.f1) := (blk_cell hp8 1).trans rfl
    have y2 : wX.cell? ⟨B8, 2, none⟩ = some (.slice bA2 b.f2.length bc2) := (blk_cell hp8 2).trans rfl
    have y3 : wX.cell? ⟨B8, 3, none⟩ = some (.string b.f3) := (blk_cell hp8 3).trans rfl
    have y4 : wX.cell? ⟨B8, 4, none⟩ = some (.slice bA4 b.f4.length bc4) := (blk_cell hp8 4).trans rfl
    obtain ⟨wS, hwS⟩ : ∃ wS, wX = wS := ⟨_, rfl⟩
    subst hwS
    have hs7 := hp7
    have hs8 := hp8
    have hbS := hpb
    have HCE2 := Lib.hid (fun (W9 : World) (h9 : Below wX.heap.size wX W9) => (⟨cell_b h9 (cell_b hbS c0), cell_b h9 (cell_b hbS c1), cell_b h9 (show wX.cell? ⟨B7, 0, none⟩ = some (.int .i64 a.f0) from (blk_cell hs7 0).trans rfl), cell_b h9 (show wX.cell? ⟨B7, 1, none⟩ = some (.int .i64 a.f1) from (blk_cell hs7 1).trans rfl), cell_b h9 (show wX.cell? ⟨B7, 2, none⟩ = some (.slice aA2 a.f2.length ac2) from (blk_cell hs7 2).trans rfl), cell_b h9 (show wX.cell? ⟨B7, 3, none⟩ = some (.string a.f3) from (blk_cell hs7 3).trans rfl), cell_b h9 (show wX.cell? ⟨B7, 4, none⟩ = some (.slice aA4 a.f4.length ac4) from (blk_cell hs7 4).trans rfl), cell_b h9 (show wX.cell? ⟨B8, 0, none⟩ = some (.int .i64 b.f0) from (blk_cell hs8 0).trans rfl), cell_b h9 (show wX.cell? ⟨B8, 1, none⟩ = some (.int .i64 b.f1) from (blk_cell hs8 1).trans rfl), cell_b h9 (show wX.cell? ⟨B8, 2, none⟩ = some (.slice bA2 b.f2.length bc2) from (blk_cell hs8 2).trans rfl), cell_b h9 (show wX.cell? ⟨B8, 3, none⟩ = some (.string b.f3) from (blk_cell hs8 3).trans rfl), cell_b h9 (show wX.cell? ⟨B8, 4, none⟩ = some (.slice bA4 b.f4.length bc4) from (blk_cell hs8 4).trans rfl)⟩ : W9.cell? ⟨w.heap.size, 0, none⟩ = some (.slice At x.length ct) ∧ W9.cell? ⟨w.heap.size, 1, none⟩ = some (.bool false) ∧ W9.cell? ⟨B7, 0, none⟩ = some (.int .i64 a.f0) ∧ W9.cell? ⟨B7, 1, none⟩ = some (.int .i64 a.f1) ∧ W9.cell? ⟨B7, 2, none⟩ = some (.slice aA2 a.f2.length ac2) ∧ W9.cell? ⟨B7, 3, none⟩ = some (.string a.f3) ∧ W9.cell? ⟨B7, 4, none⟩ = some (.slice aA4 a.f4.length ac4) ∧ W9.cell? ⟨B8, 0, none⟩ = some (.int .i64 b.f0) ∧ W9.cell? ⟨B8, 1, none⟩ = some (.int .i64 b.f1) ∧ W9.cell? ⟨B8, 2, none⟩ = some (.slice bA2 b.f2.length bc2) ∧ W9.cell? ⟨B8, 3, none⟩ = some (.string b.f3) ∧ W9.cell? ⟨B8, 4, none⟩ = some (.slice bA4 b.f4.length bc4)))
    have hc2 : wX.cell? ⟨w.heap.size, 0, none⟩ = some (.slice At x.length ct) ∧ wX.cell? ⟨w.heap.size, 1, none⟩ = some (.bool false) ∧ wX.cell? ⟨B7, 0, none⟩ = some (.int .i64 a.f0) ∧ wX.cell? ⟨B7, 1, none⟩ = some (.int .i64 a.f1) ∧ wX.cell? ⟨B7, 2, none⟩ = some (.slice aA2 a.f2.length ac2) ∧ wX.cell? ⟨B7, 3, none⟩ = some (.string a.f3) ∧ wX.cell? ⟨B7, 4, none⟩ = some (.slice aA4 a.f4.length ac4) ∧ wX.cell? ⟨B8, 0, none⟩ = some (.int .i64 b.f0) ∧ wX.cell? ⟨B8, 1, none⟩ = some (.int .i64 b.f1) ∧ wX.cell? ⟨B8, 2, none⟩ = some (.slice bA2 b.f2.length bc2) ∧ wX.cell? ⟨B8, 3, none⟩ = some (.string b.f3) ∧ wX.cell? ⟨B8, 4, none⟩ = some (.slice bA4 b.f4.length bc4)
      := HCE2.out _ (Below.refl _ _)
    clear HCE
    clear hs7 hs8 hp7 hp8 hc2 hbS
    go_wp2
    go_region_held3 (fun w9 => w9.cell? ⟨w.heap.size, 0, none⟩ = some (.slice At x.length ct) ∧ w9.cell? ⟨w.heap.size, 1, none⟩ = some (.bool false) ∧ w9.cell? ⟨B7, 0, none⟩ = some (.int .i64 a.f0) ∧ w9.cell? ⟨B7, 1, none⟩ = some (.int .i64 a.f1) ∧ w9.cell? ⟨B7, 2, none⟩ = some (.slice aA2 a.f2.length ac2) ∧ w9.cell? ⟨B7, 3, none⟩ = some (.string a.f3) ∧ w9.cell? ⟨B7, 4, none⟩ = some (.slice aA4 a.f4.length ac4) ∧ w9.cell? ⟨B8, 0, none⟩ = some (.int .i64 b.f0) ∧ w9.cell? ⟨B8, 1, none⟩ = some (.int .i64 b.f1) ∧ w9.cell? ⟨B8, 2, none⟩ = some (.slice bA2 b.f2.length bc2) ∧ w9.cell? ⟨B8, 3, none⟩ = some (.string b.f3) ∧ w9.cell? ⟨B8, 4, none⟩ = some (.slice bA4 b.f4.length bc4)) (exact HCE2.out _ (by repeat (first | exact Below.refl _ _ | assumption | apply below_drew | apply pw_below_drewN))) (first | (go_at_call 79; refine (H1.out _ (by repeat (first | exact Below.refl _ _ | assumption | apply below_drew | apply pw_below_drewN)) xb ob cb bs HL.out hcb (Kd.C_below HBS.out (by repeat (first | exact Below.refl _ _ | assumption | apply below_drew | apply pw_below_drewN)))).mono ?_; rintro e' wk ⟨bk, ok, ck, dk, rfl, hck, hLk, hCk, hbk⟩; have hBk := below_t (show Below u2.heap.size u2 _ by repeat (first | exact Below.refl _ _ | assumption | apply below_drew | apply pw_below_drewN)) hbk; have hSk := below_t (show Below wX.heap.size wX _ by repeat (first | exact Below.refl _ _ | assumption | apply below_drew | apply pw_below_drewN)) hbk; clear hbk H1) | (go_at_call 79; refine (H2.out _ (by repeat (first | exact Below.refl _ _ | assumption | apply below_drew | apply pw_below_drewN)) bk ok ck dk hLk.len hck (by exact hCk)).mono ?_; rintro e' wm ⟨bm, om, cm, dm, rfl, hcm, hLm, hCm, hbm⟩; have hBm := below_t (show Below u2.heap.size u2 _ by repeat (first | exact Below.refl _ _ | assumption | apply below_drew | apply pw_below_drewN)) hbm; have hSm := below_t (show Below wX.heap.size wX _ by repeat (first | exact Below.refl _ _ | assumption | apply below_drew | apply pw_below_drewN)) hbm; clear hbm H2))
    have HX := Lib.hid (And.intro hLk (And.intro hLm (And.intro hCm hBm)))
    clear hLk hLm hCm hBm hCk hBk hSk hSm
    go_wp2
    go_ret
    exact ⟨bm, om, cm, dm, rfl, hcm, leads_cat (a := a) (b := b) rfl rfl HX.out.1 HX.out.2.1, HX.out.2.2.1, HBU.out.trans (HX.out.2.2.2.mono (by omega))⟩
end Go.Proofs.YtfinjenkgpndlaaGreatDoor.PA

namespace Go.Proofs.YtfinjenkgpndlaaGreatDoor.PA
open Go.RowKit Go.Shelf Go.Proofs.YtfinjenkgpndlaaGreatDoorW.PrintWords Go.Proofs.YtfinjenkgpndlaaGreatDoorW.PrintLast Go.Proofs.YtfinjenkgpndlaaGreatDoorW.PrintMore
attribute [local go_sem] Oper.semAt_some
set_option linter.unusedVariables false
set_option linter.unusedSimpArgs false

set_option maxRecDepth 100000 in
set_option maxHeartbeats 8000000 in
theorem walk_cat_true (x : List Int) (At : Option Addr) (ct : Nat) (p : Int) (s : List Rg) (nm : ByteArray) (a b : Nd) (hW : WalkOk 79 x true At ct a a) (hV : WalkOk 79 x true At ct b b) : WalkOk 79 x true At ct (⟨4, p, s, nm, [a, b]⟩ : Nd) ⟨4, p, s, nm, [a, b]⟩ := by
  intro w A2 A4 c2 c4 xb ob cb bs hT hl2 hl4 h2 h4 hl hcb hB
  dsimp only at hl2 hl4 h2 h4 ⊢
  have hlx := hT.len
  obtain ⟨u1, q1⟩ : ∃ u1, w.alloc (.cells #[.slice At x.length ct, .bool true] 121) = u1 := ⟨_, rfl⟩
  obtain ⟨u2, q2⟩ : ∃ u2, u1.alloc (.cells #[.int .i64 4, .int .i64 p, .slice A2 s.length c2, .string nm, .slice A4 2 c4] 26) = u2 := ⟨_, rfl⟩
  have z1 : u1.heap.size = w.heap.size + 1 := by rw [← q1]; simp
  have z2 : u2.heap.size = w.heap.size + 2 := by rw [← q2]; simp [z1]
  have v1 : Below w.heap.size w u1 := by rw [← q1]; exact (Below.refl _ w).alloc (Nat.le_refl _) _
  have m1 : u1.heap[w.heap.size]? = some (.cells #[.slice At x.length ct, .bool true] 121 (0, 0)) := by rw [← q1]; exact heap_alloc_new w _
  have v2 : Below u1.heap.size u1 u2 := by rw [← q2]; exact (Below.refl _ u1).alloc (Nat.le_refl _) _
  have m2 : u2.heap[w.heap.size + 1]? = some (.cells #[.int .i64 4, .int .i64 p, .slice A2 s.length c2, .string nm, .slice A4 2 c4] 26 (0, 0)) := by rw [← q2, ← z1]; exact heap_alloc_new u1 _
  have m1' : u2.heap[w.heap.size]? = some (.cells #[.slice At x.length ct, .bool true] 121 (0, 0)) := (v2.block _ (by omega)).trans m1
  have hbu : Below w.heap.size w u2 := v1.trans (v2.mono (by omega))
  have c0 : u2.cell? ⟨w.heap.size, 0, none⟩ = some (.slice At x.length ct) := (blk_cell m1' 0).trans rfl
  have c1 : u2.cell? ⟨w.heap.size, 1, none⟩ = some (.bool true) := (blk_cell m1' 1).trans rfl
  have k0 : u2.cell? ⟨w.heap.size + 1, 0, none⟩ = some (.int .i64 4) := (blk_cell m2 0).trans rfl
  have k2 : u2.cell? ⟨w.heap.size + 1, 2, none⟩ = some (.slice A2 s.length c2) := (blk_cell m2 2).trans rfl
  have k4 : u2.cell? ⟨w.heap.size + 1, 4, none⟩ = some (.slice A4 2 c4) := (blk_cell m2 4).trans rfl
  have HT := Lib.hid (hT.below hbu)
  have HBS := Lib.hid (Kd.C_below hB hbu)
  have HL := Lib.hid hl
  have HBU := Lib.hid hbu
  have HC := Lib.hid (And.intro (Kd.C_below h2 hbu) (Kd.C_below h4 hbu))
  have hlb : bs.length < 100000001 := by omega
  obtain ⟨b4, o4, rfl, hb4⟩ := C_plain h4 (by simp) (by decide)
  obtain ⟨csa, _, hKa, hca⟩ := C_cell h4 (j := 0) (p := a) rfl
  obtain ⟨aA2, ac2, aA4, ac4, rfl, al2, aC2, al4, aC4⟩ := k26_open hKa
  have ax0 : u2.cell? ⟨b4, o4, none⟩ = some (.int .i64 a.f0) := cell_b hbu (hca 0 _ rfl)
  have ax1 : u2.cell? ⟨b4, o4 + 1, none⟩ = some (.int .i64 a.f1) := cell_b hbu (hca 1 _ rfl)
  have ax2 : u2.cell? ⟨b4, o4 + 2, none⟩ = some (.slice aA2 a.f2.length ac2) := cell_b hbu (hca 2 _ rfl)
  have ax3 : u2.cell? ⟨b4, o4 + 3, none⟩ = some (.string a.f3) := cell_b hbu (hca 3 _ rfl)
  have ax4 : u2.cell? ⟨b4, o4 + 4, none⟩ = some (.slice aA4 a.f4.length ac4) := cell_b hbu (hca 4 _ rfl)
  have Ha := Lib.hid (And.intro (And.intro al2 al4) (And.intro (Kd.C_below aC2 hbu) (Kd.C_below aC4 hbu)))
  clear hKa hca aC2 aC4
  obtain ⟨csb, _, hKb, hcb⟩ := C_cell h4 (j := 1) (p := b) rfl
  obtain ⟨bA2, bc2, bA4, bc4, rfl, bl2, bC2, bl4, bC4⟩ := k26_open hKb
  have bx0 : u2.cell? ⟨b4, o4 + 5, none⟩ = some (.int .i64 b.f0) := cell_b hbu (hcb 0 _ rfl)
  have bx1 : u2.cell? ⟨b4, o4 + 6, none⟩ = some (.int .i64 b.f1) := cell_b hbu (hcb 1 _ rfl)
  have bx2 : u2.cell? ⟨b4, o4 + 7, none⟩ = some (.slice bA2 b.f2.length bc2) := cell_b hbu (hcb 2 _ rfl)
  have bx3 : u2.cell? ⟨b4, o4 + 8, none⟩ = some (.string b.f3) := cell_b hbu (hcb 3 _ rfl)
  have bx4 : u2.cell? ⟨b4, o4 + 9, none⟩ = some (.slice bA4 b.f4.length bc4) := cell_b hbu (hcb 4 _ rfl)
  have Hb := Lib.hid (And.intro (And.intro bl2 bl4) (And.intro (Kd.C_below bC2 hbu) (Kd.C_below bC4 hbu)))
  clear hKb hcb bC2 bC4
  clear hT hB hl hbu h2 h4 m1 m1' m2 v1 v2
  have H1 := Lib.hid (fun (W9 : World) (h9 : Below u2.heap.size u2 W9) (xb ob cb : Nat) (bs : List Bool) (hl : bs.length = x.length + 1) (hcb : bs.length ≤ cb) (hB : Kd.C Kd.bool W9 (some ⟨xb, ob, none⟩) bs.length bs) => hW W9 aA2 aA4 ac2 ac4 xb ob cb bs (HT.out.below h9) Ha.out.1.1 Ha.out.1.2 (Kd.C_below Ha.out.2.1 h9) (Kd.C_below Ha.out.2.2 h9) hl hcb hB)
  have H2 := Lib.hid (fun (W9 : World) (h9 : Below u2.heap.size u2 W9) (xb ob cb : Nat) (bs : List Bool) (hl : bs.length = x.length + 1) (hcb : bs.length ≤ cb) (hB : Kd.C Kd.bool W9 (some ⟨xb, ob, none⟩) bs.length bs) => hV W9 bA2 bA4 bc2 bc4 xb ob cb bs (HT.out.below h9) Hb.out.1.1 Hb.out.1.2 (Kd.C_below Hb.out.2.1 h9) (Kd.C_below Hb.out.2.2 h9) hl hcb hB)
  clear hW hV
  have HCE := Lib.hid (fun (W9 : World) (h9 : Below u2.heap.size u2 W9) => (⟨cell_b h9 c0, cell_b h9 c1, cell_b h9 k4, cell_b h9 ax0, cell_b h9 ax1, cell_b h9 ax2, cell_b h9 ax3, cell_b h9 ax4, cell_b h9 bx0, cell_b h9 bx1, cell_b h9 bx2, cell_b h9 bx3, cell_b h9 bx4⟩ : W9.cell? ⟨w.heap.size, 0, none⟩ = some (.slice At x.length ct) ∧ W9.cell? ⟨w.heap.size, 1, none⟩ = some (.bool true) ∧ W9.cell? ⟨w.heap.size + 1, 4, none⟩ = some (.slice (some ⟨b4, o4, none⟩) 2 c4) ∧ W9.cell? ⟨b4, o4, none⟩ = some (.int .i64 a.f0) ∧ W9.cell? ⟨b4, o4 + 1, none⟩ = some (.int .i64 a.f1) ∧ W9.cell? ⟨b4, o4 + 2, none⟩ = some (.slice aA2 a.f2.length ac2) ∧ W9.cell? ⟨b4, o4 + 3, none⟩ = some (.string a.f3) ∧ W9.cell? ⟨b4, o4 + 4, none⟩ = some (.slice aA4 a.f4.length ac4) ∧ W9.cell? ⟨b4, o4 + 5, none⟩ = some (.int .i64 b.f0) ∧ W9.cell? ⟨b4, o4 + 6, none⟩ = some (.int .i64 b.f1) ∧ W9.cell? ⟨b4, o4 + 7, none⟩ = some (.slice bA2 b.f2.length bc2) ∧ W9.cell? ⟨b4, o4 + 8, none⟩ = some (.string b.f3) ∧ W9.cell? ⟨b4, o4 + 9, none⟩ = some (.slice bA4 b.f4.length bc4)))
  go_enter Tryz.func79, Tryz.ntmps79
  go_wp2
  clear q1 q2
  go_region_held3 (fun w9 => w9.cell? ⟨w.heap.size, 0, none⟩ = some (.slice At x.length ct) ∧ w9.cell? ⟨w.heap.size, 1, none⟩ = some (.bool true) ∧ w9.cell? ⟨w.heap.size + 1, 4, none⟩ = some (.slice (some ⟨b4, o4, none⟩) 2 c4) ∧ w9.cell? ⟨b4, o4, none⟩ = some (.int .i64 a.f0) ∧ w9.cell? ⟨b4, o4 + 1, none⟩ = some (.int .i64 a.f1) ∧ w9.cell? ⟨b4, o4 + 2, none⟩ = some (.slice aA2 a.f2.length ac2) ∧ w9.cell? ⟨b4, o4 + 3, none⟩ = some (.string a.f3) ∧ w9.cell? ⟨b4, o4 + 4, none⟩ = some (.slice aA4 a.f4.length ac4) ∧ w9.cell? ⟨b4, o4 + 5, none⟩ = some (.int .i64 b.f0) ∧ w9.cell? ⟨b4, o4 + 6, none⟩ = some (.int .i64 b.f1) ∧ w9.cell? ⟨b4, o4 + 7, none⟩ = some (.slice bA2 b.f2.length bc2) ∧ w9.cell? ⟨b4, o4 + 8, none⟩ = some (.string b.f3) ∧ w9.cell? ⟨b4, o4 + 9, none⟩ = some (.slice bA4 b.f4.length bc4)) (exact HCE.out _ (by repeat (first | exact Below.refl _ _ | assumption | apply below_drew | apply pw_below_drewN | (refine Below.alloc ?_ (by simp) _) | (refine Below.setCell ?_ (by simp) _)))) (fail)
  all_goals (try rename_i hHeld)
  all_goals (try clear hHeld)
  all_goals first
    | (have hP := two_box u2 #[.int .i64 a.f0, .int .i64 a.f1, .slice aA2 a.f2.length ac2, .string a.f3, .slice aA4 a.f4.length ac4] #[.int .i64 b.f0, .int .i64 b.f1, .slice bA2 b.f2.length bc2, .string b.f3, .slice bA4 b.f4.length bc4] 26; obtain ⟨wX, hwX⟩ : ∃ wX, ((u2.alloc (.cells #[.int .i64 a.f0, .int .i64 a.f1, .slice aA2 a.f2.length ac2, .string a.f3, .slice aA4 a.f4.length ac4] 26)).alloc (.cells #[.int .i64 b.f0, .int .i64 b.f1, .slice bA2 b.f2.length bc2, .string b.f3, .slice bA4 b.f4.length bc4] 26)).drew = wX := ⟨_, rfl⟩; rw [hwX] at hP ⊢; clear hwX; obtain ⟨hp7, hp8, hpb⟩ := hP; rw [z2] at hp7 hp8; have h78 : ¬ (w.heap.size + 2 + 1 = w.heap.size + 2) := (by omega); have h87 : ¬ (w.heap.size + 2 = w.heap.size + 2 + 1) := (by omega); have g8 : w.heap.size + 2 ≤ w.heap.size + 2 + 1 := (by omega); have g7 : w.heap.size + 2 ≤ w.heap.size + 2 := Nat.le_refl _; generalize hq8 : w.heap.size + 2 + 1 = B8 at hp8 h78 h87 g8 ⊢; generalize hq7 : w.heap.size + 2 = B7 at hp7 h78 h87 ⊢; have G7 := Lib.hid (show u2.heap.size ≤ B7 from (by omega)); have G8 := Lib.hid (show u2.heap.size ≤ B8 from (by omega)); clear hq7 hq8 g7 g8)
    | (have hP := two_box u2 #[.int .i64 b.f0, .int .i64 b.f1, .slice bA2 b.f2.length bc2, .string b.f3, .slice bA4 b.f4.length bc4] #[.int .i64 a.f0, .int .i64 a.f1, .slice aA2 a.f2.length ac2, .string a.f3, .slice aA4 a.f4.length ac4] 26; obtain ⟨wX, hwX⟩ : ∃ wX, ((u2.alloc (.cells #[.int .i64 b.f0, .int .i64 b.f1, .slice bA2 b.f2.length bc2, .string b.f3, .slice bA4 b.f4.length bc4] 26)).alloc (.cells #[.int .i64 a.f0, .int .i64 a.f1, .slice aA2 a.f2.length ac2, .string a.f3, .slice aA4 a.f4.length ac4] 26)).drew = wX := ⟨_, rfl⟩; rw [hwX] at hP ⊢; clear hwX; obtain ⟨hp8, hp7, hpb⟩ := hP; rw [z2] at hp7 hp8; have h78 : ¬ (w.heap.size + 2 + 1 = w.heap.size + 2) := (by omega); have h87 : ¬ (w.heap.size + 2 = w.heap.size + 2 + 1) := (by omega); have g7 : w.heap.size + 2 ≤ w.heap.size + 2 + 1 := (by omega); have g8 : w.heap.size + 2 ≤ w.heap.size + 2 := Nat.le_refl _; generalize hq8 : w.heap.size + 2 + 1 = B7 at hp7 h78 h87 g7 ⊢; generalize hq7 : w.heap.size + 2 = B8 at hp8 h78 h87 ⊢; have G8 := Lib.hid (show u2.heap.size ≤ B8 from (by omega)); have G7 := Lib.hid (show u2.heap.size ≤ B7 from (by omega)); clear hq7 hq8 g7 g8)
  all_goals
    have w0 := cell_b hpb c0
    have w1 := cell_b hpb c1
    have t0 : wX.cell? ⟨B7, 0, none⟩ = some (.int .i64 a.f0) := (blk_cell hp7 0).trans rfl
    have t1 : wX.cell? ⟨B7, 1, none⟩ = some (.int .i64 a.f1) := (blk_cell hp7 1).trans rfl
    have t2 : wX.cell? ⟨B7, 2, none⟩ = some (.slice aA2 a.f2.length ac2) := (blk_cell hp7 2).trans rfl
    have t3 : wX.cell? ⟨B7, 3, none⟩ = some (.string a.f3) := (blk_cell hp7 3).trans rfl
    have t4 : wX.cell? ⟨B7, 4, none⟩ = some (.slice aA4 a.f4.length ac4) := (blk_cell hp7 4).trans rfl
    have y0 : wX.cell? ⟨B8, 0, none⟩ = some (.int .i64 b.f0) := (blk_cell hp8 0).trans rfl
    have y1 : wX.cell? ⟨B8, 1, none⟩ = some (.int .i64 b.f1) := (blk_cell hp8 1).trans rfl
    have y2 : wX.cell? ⟨B8, 2, none⟩ = some (.slice bA2 b.f2.length bc2) := (blk_cell hp8 2).trans rfl
    have y3 : wX.cell? ⟨B8, 3, none⟩ = some (.string b.f3) := (blk_cell hp8 3).trans rfl
    have y4 : wX.cell? ⟨B8, 4, none⟩ = some (.slice bA4 b.f4.length bc4) := (blk_cell hp8 4).trans rfl
    have r0 := blk_frozen hp7 0
    have r1 := blk_frozen hp7 1
    have r2 := blk_frozen hp7 2
    have r3 := blk_frozen hp7 3
    have r4 := blk_frozen hp7 4
    have s0 := blk_frozen hp8 0
    have s1 := blk_frozen hp8 1
    have s2 := blk_frozen hp8 2
    have s3 := blk_frozen hp8 3
    have s4 := blk_frozen hp8 4
    obtain ⟨wM, hwM⟩ : ∃ wM, (((((wX.setCell ⟨B7, 0, none⟩ (.int .i64 b.f0)).setCell ⟨B7, 1, none⟩ (.int .i64 b.f1)).setCell ⟨B7, 2, none⟩ (.slice bA2 b.f2.length bc2)).setCell ⟨B7, 3, none⟩ (.string b.f3)).setCell ⟨B7, 4, none⟩ (.slice bA4 b.f4.length bc4)) = wM := ⟨_, rfl⟩
    have hm7 : wM.heap[B7]? = some (.cells #[.int .i64 b.f0, .int .i64 b.f1, .slice bA2 b.f2.length bc2, .string b.f3, .slice bA4 b.f4.length bc4] 26 (0, 0)) := by rw [← hwM]; exact five_put hp7 _ _ _ _ _
    have hgm : wX.grownBy wM (some B7) := by rw [← hwM]; exact five_grown _ _ _ _ _ _ _
    have hm8 : wM.heap[B8]? = some (.cells #[.int .i64 b.f0, .int .i64 b.f1, .slice bA2 b.f2.length bc2, .string b.f3, .slice bA4 b.f4.length bc4] 26 (0, 0)) := (hgm.block _ (blk_lt hp8) (fun e => by cases e; first | exact h78 rfl | exact h87 rfl)).trans hp8
    have hbm : Below u2.heap.size u2 wM := hpb.grown hgm hpb.size (fun k hk => by cases hk; exact G7.out)
    obtain ⟨wS, hwS⟩ : ∃ wS, (((((wM.setCell ⟨B8, 0, none⟩ (.int .i64 a.f0)).setCell ⟨B8, 1, none⟩ (.int .i64 a.f1)).setCell ⟨B8, 2, none⟩ (.slice aA2 a.f2.length ac2)).setCell ⟨B8, 3, none⟩ (.string a.f3)).setCell ⟨B8, 4, none⟩ (.slice aA4 a.f4.length ac4)) = wS := ⟨_, rfl⟩
    have hs8 : wS.heap[B8]? = some (.cells #[.int .i64 a.f0, .int .i64 a.f1, .slice aA2 a.f2.length ac2, .string a.f3, .slice aA4 a.f4.length ac4] 26 (0, 0)) := by rw [← hwS]; exact five_put hm8 _ _ _ _ _
    have hgs : wM.grownBy wS (some B8) := by rw [← hwS]; exact five_grown _ _ _ _ _ _ _
    have hs7 : wS.heap[B7]? = some (.cells #[.int .i64 b.f0, .int .i64 b.f1, .slice bA2 b.f2.length bc2, .string b.f3, .slice bA4 b.f4.length bc4] 26 (0, 0)) := (hgs.block _ (blk_lt hm7) (fun e => by cases e; first | exact h78 rfl | exact h87 rfl)).trans hm7
    have hbS : Below u2.heap.size u2 wS := hbm.grown hgs hbm.size (fun k hk => by cases hk; exact G8.out)
    have y0' : wM.cell? ⟨B8, 0, none⟩ = some (.int .i64 b.f0) := (blk_cell hm8 0).trans rfl
    have y1' : wM.cell? ⟨B8, 1, none⟩ = some (.int .i64 b.f1) := (blk_cell hm8 1).trans rfl
    have y2' : wM.cell? ⟨B8, 2, none⟩ = some (.slice bA2 b.f2.length bc2) := (blk_cell hm8 2).trans rfl
    have y3' : wM.cell? ⟨B8, 3, none⟩ = some (.string b.f3) := (blk_cell hm8 3).trans rfl
    have y4' : wM.cell? ⟨B8, 4, none⟩ = some (.slice bA4 b.f4.length bc4) := (blk_cell hm8 4).trans rfl
    have s0' := blk_frozen hm8 0
    have s1' := blk_frozen hm8 1
    have s2' := blk_frozen hm8 2
    have s3' := blk_frozen hm8 3
    have s4' := blk_frozen hm8 4
    have HCE2 := Lib.hid (fun (W9 : World) (h9 : Below wS.heap.size wS W9) => (⟨cell_b h9 (cell_b hbS c0), cell_b h9 (cell_b hbS c1), cell_b h9 (show wS.cell? ⟨B7, 0, none⟩ = some (.int .i64 b.f0) from (blk_cell hs7 0).trans rfl), cell_b h9 (show wS.cell? ⟨B7, 1, none⟩ = some (.int .i64 b.f1) from (blk_cell hs7 1).trans rfl), cell_b h9 (show wS.cell? ⟨B7, 2, none⟩ = some (.slice bA2 b.f2.length bc2) from (blk_cell hs7 2).trans rfl), cell_b h9 (show wS.cell? ⟨B7, 3, none⟩ = some (.string b.f3) from (blk_cell hs7 3).trans rfl), cell_b h9 (show wS.cell? ⟨B7, 4, none⟩ = some (.slice bA4 b.f4.length bc4) from (blk_cell hs7 4).trans rfl), cell_b h9 (show wS.cell? ⟨B8, 0, none⟩ = some (.int .i64 a.f0) from (blk_cell hs8 0).trans rfl), cell_b h9 (show wS.cell? ⟨B8, 1, none⟩ = some (.int .i64 a.f1) from (blk_cell hs8 1).trans rfl), cell_b h9 (show wS.cell? ⟨B8, 2, none⟩ = some (.slice aA2 a.f2.length ac2) from (blk_cell hs8 2).trans rfl), cell_b h9 (show wS.cell? ⟨B8, 3, none⟩ = some (.string a.f3) from (blk_cell hs8 3).trans rfl), cell_b h9 (show wS.cell? ⟨B8, 4, none⟩ = some (.slice aA4 a.f4.length ac4) from (blk_cell hs8 4).trans rfl)⟩ : W9.cell? ⟨w.heap.size, 0, none⟩ = some (.slice At x.length ct) ∧ W9.cell? ⟨w.heap.size, 1, none⟩ = some (.bool true) ∧ W9.cell? ⟨B7, 0, none⟩ = some (.int .i64 b.f0) ∧ W9.cell? ⟨B7, 1, none⟩ = some (.int .i64 b.f1) ∧ W9.cell? ⟨B7, 2, none⟩ = some (.slice bA2 b.f2.length bc2) ∧ W9.cell? ⟨B7, 3, none⟩ = some (.string b.f3) ∧ W9.cell? ⟨B7, 4, none⟩ = some (.slice bA4 b.f4.length bc4) ∧ W9.cell? ⟨B8, 0, none⟩ = some (.int .i64 a.f0) ∧ W9.cell? ⟨B8, 1, none⟩ = some (.int .i64 a.f1) ∧ W9.cell? ⟨B8, 2, none⟩ = some (.slice aA2 a.f2.length ac2) ∧ W9.cell? ⟨B8, 3, none⟩ = some (.string a.f3) ∧ W9.cell? ⟨B8, 4, none⟩ = some (.slice aA4 a.f4.length ac4)))
    have hc2 : wS.cell? ⟨w.heap.size, 0, none⟩ = some (.slice At x.length ct) ∧ wS.cell? ⟨w.heap.size, 1, none⟩ = some (.bool true) ∧ wS.cell? ⟨B7, 0, none⟩ = some (.int .i64 b.f0) ∧ wS.cell? ⟨B7, 1, none⟩ = some (.int .i64 b.f1) ∧ wS.cell? ⟨B7, 2, none⟩ = some (.slice bA2 b.f2.length bc2) ∧ wS.cell? ⟨B7, 3, none⟩ = some (.string b.f3) ∧ wS.cell? ⟨B7, 4, none⟩ = some (.slice bA4 b.f4.length bc4) ∧ wS.cell? ⟨B8, 0, none⟩ = some (.int .i64 a.f0) ∧ wS.cell? ⟨B8, 1, none⟩ = some (.int .i64 a.f1) ∧ wS.cell? ⟨B8, 2, none⟩ = some (.slice aA2 a.f2.length ac2) ∧ wS.cell? ⟨B8, 3, none⟩ = some (.string a.f3) ∧ wS.cell? ⟨B8, 4, none⟩ = some (.slice aA4 a.f4.length ac4)
      := HCE2.out _ (Below.refl _ _)
    clear HCE
    clear hgm hgs hm7 hm8 hbm hs7 hs8 hp7 hp8 hc2
    go_wp2
    go_region_held3 (fun w9 => w9.cell? ⟨w.heap.size, 0, none⟩ = some (.slice At x.length ct) ∧ w9.cell? ⟨w.heap.size, 1, none⟩ = some (.bool true) ∧ w9.cell? ⟨B7, 0, none⟩ = some (.int .i64 b.f0) ∧ w9.cell? ⟨B7, 1, none⟩ = some (.int .i64 b.f1) ∧ w9.cell? ⟨B7, 2, none⟩ = some (.slice bA2 b.f2.length bc2) ∧ w9.cell? ⟨B7, 3, none⟩ = some (.string b.f3) ∧ w9.cell? ⟨B7, 4, none⟩ = some (.slice bA4 b.f4.length bc4) ∧ w9.cell? ⟨B8, 0, none⟩ = some (.int .i64 a.f0) ∧ w9.cell? ⟨B8, 1, none⟩ = some (.int .i64 a.f1) ∧ w9.cell? ⟨B8, 2, none⟩ = some (.slice aA2 a.f2.length ac2) ∧ w9.cell? ⟨B8, 3, none⟩ = some (.string a.f3) ∧ w9.cell? ⟨B8, 4, none⟩ = some (.slice aA4 a.f4.length ac4)) (exact HCE2.out _ (by repeat (first | exact Below.refl _ _ | assumption | apply below_drew | apply pw_below_drewN))) (first | (go_at_call 79; refine (H2.out _ (by repeat (first | exact Below.refl _ _ | assumption | apply below_drew | apply pw_below_drewN)) xb ob cb bs HL.out hcb (Kd.C_below HBS.out (by repeat (first | exact Below.refl _ _ | assumption | apply below_drew | apply pw_below_drewN)))).mono ?_; rintro e' wk ⟨bk, ok, ck, dk, rfl, hck, hLk, hCk, hbk⟩; have hBk := below_t (show Below u2.heap.size u2 _ by repeat (first | exact Below.refl _ _ | assumption | apply below_drew | apply pw_below_drewN)) hbk; have hSk := below_t (show Below wS.heap.size wS _ by repeat (first | exact Below.refl _ _ | assumption | apply below_drew | apply pw_below_drewN)) hbk; clear hbk H2) | (go_at_call 79; refine (H1.out _ (by repeat (first | exact Below.refl _ _ | assumption | apply below_drew | apply pw_below_drewN)) bk ok ck dk hLk.len hck (by exact hCk)).mono ?_; rintro e' wm ⟨bm, om, cm, dm, rfl, hcm, hLm, hCm, hbm⟩; have hBm := below_t (show Below u2.heap.size u2 _ by repeat (first | exact Below.refl _ _ | assumption | apply below_drew | apply pw_below_drewN)) hbm; have hSm := below_t (show Below wS.heap.size wS _ by repeat (first | exact Below.refl _ _ | assumption | apply below_drew | apply pw_below_drewN)) hbm; clear hbm H1))
    have HX := Lib.hid (And.intro hLk (And.intro hLm (And.intro hCm hBm)))
    clear hLk hLm hCm hBm hCk hBk hSk hSm
    go_wp2
    go_ret
    exact ⟨bm, om, cm, dm, rfl, hcm, leads_cat (a := a) (b := b) rfl rfl HX.out.1 HX.out.2.1, HX.out.2.2.1, HBU.out.trans (HX.out.2.2.2.mono (by omega))⟩
end Go.Proofs.YtfinjenkgpndlaaGreatDoor.PA

namespace Go.Proofs.YtfinjenkgpndlaaGreatDoor.PA
open Go.RowKit Go.Shelf Go.Proofs.YtfinjenkgpndlaaGreatDoorW.PrintWords Go.Proofs.YtfinjenkgpndlaaGreatDoorW.PrintLast Go.Proofs.YtfinjenkgpndlaaGreatDoorW.PrintMore
set_option linter.unusedVariables false
set_option linter.unusedSimpArgs false

theorem walk_ok (x : List Int) (back : Bool) (At : Option Addr) (ct : Nat) : ∀ e : Nd, Ok e → WalkOk 79 x back At ct e e := by
  refine nd_ind fun e ih hok => ?_
  have hform := hok.form
  have hkid : ∀ k ∈ e.f4, WalkOk 79 x back At ct k k := fun k hk => ih k hk (hok.kid hk)
  clear ih hok
  obtain ⟨k, p, s, nm, ks⟩ := e
  dsimp only at hform hkid
  rcases hform with ⟨rfl, rfl⟩ | ⟨rfl, rfl⟩ | ⟨a, b, rfl | rfl, rfl⟩ | ⟨a, rfl | rfl | rfl, rfl⟩
  · exact walk_set x back At ct p s nm []
  · exact walk_none x back At ct p s nm []
  · cases back
    · exact walk_cat_false x At ct p s nm a b (hkid a (by simp)) (hkid b (by simp))
    · exact walk_cat_true x At ct p s nm a b (hkid a (by simp)) (hkid b (by simp))
  · exact walk_alt x back At ct p s nm a b (hkid a (by simp)) (hkid b (by simp))
  · exact walk_star x back At ct p s nm a (star_ok x back At ct a (hkid a (by simp)))
  · exact walk_plus x back At ct p s nm a (hkid a (by simp)) (star_ok x back At ct a (hkid a (by simp)))
  · exact walk_opt x back At ct p s nm a (hkid a (by simp))
end Go.Proofs.YtfinjenkgpndlaaGreatDoor.PA

namespace Go.Proofs.YtfinjenkgpndlaaGreatDoor.PA
open Go.RowKit Go.Shelf Go.Proofs.YtfinjenkgpndlaaGreatDoorW.PrintWords Go.Proofs.YtfinjenkgpndlaaGreatDoorW.PrintLast Go.Proofs.YtfinjenkgpndlaaGreatDoorW.PrintMore
set_option linter.unusedVariables false
set_option linter.unusedSimpArgs false

theorem range_turn2 {α : Type} {T : List Nat} {P : Program} {n B0 : Nat} {g : Operand} {ps : Array Tmp} {assign body : Code} {Q : Exit → Act → World → Prop} {a : Act} {w : World}
    {gf : Nat} {lb : Array Value} (hg : a.eval g = .func (.func gf) #[] lb) (eg : ∀ args w, (callFunc gf args).run P w = .ok (.enter gf args) w) {encs : α → Array Value} (hps : ∀ x, (encs x).size = ps.size) {xs : List α}
    (hit : ∀ r, Iter T P B0 gf lb encs xs ((w.alloc (.deferred (some []))).alloc (.loop r)))
    (I : Nat → World → Prop) (Ix : World → Prop) (hI : ∀ i A B, I i A → TurnFrom w.heap.size A B → I i B) (hIx : ∀ A B, Ix A → TurnFrom w.heap.size A B → Ix B) (h0 : I 0 w) (I' : Nat → α → Act → World → Prop) (hI' : ∀ i x a A B, I' i x a A → TurnFrom w.heap.size A B → I' i x a B)
    (hassign : ∀ (l i : Nat) (x : α) (W : World) (K : Act → World → Prop), xs[i]? = some x → I i W → (∀ a₁ W', KpT T B0 W W' → I' i x a₁ W' → K a₁ W') →
      assign.wpIn (Fence.wide.inRound l) 5 P (Exit.then K (fun _ _ _ => False)) { tmps := (ps.zip (encs x)).foldl (fun t (p, v) => t.setIfInBounds p v) a.tmps, defers := [] } W)
    (hbody : ∀ (l i : Nat) (x : α) (a₁ : Act) (W : World), xs[i]? = some x → I' i x a₁ W → body.wpIn (Fence.wide.inRound l) 5 P (turnPost T w.heap.size B0 I Ix i W) a₁ W)
    (hdone : ∀ (D : Nat) (W : World), w.heap.size ≤ D → I xs.length W → W.heap[D]? = some (.deferred (some [])) → Q .normal { a with defers := { target := .collected D, args := #[] } :: a.defers } W)
    (hstop : ∀ (D : Nat) (W : World), w.heap.size ≤ D → Ix W → W.heap[D]? = some (.deferred (some [])) → Code.ret.wpIn Fence.wide n P Q { a with defers := { target := .collected D, args := #[] } :: a.defers } W) :
    (Code.rangeFunc g ps assign body).wpIn Fence.wide n P Q a w := by
  refine wpIn_rangeFunc fun fn _ => ?_
  let r0 : Loop := { state := .ready, pending := none, fn := fn, tmps := a.tmps, params := ps, assign := assign, body := body, defers := w.heap.size }
  let W1 : World := (w.alloc (.deferred (some []))).alloc (.loop r0)
  have hsz : W1.heap.size = w.heap.size + 1 + 1 := by simp [W1]
  have hL : W1.heap[w.heap.size + 1]? = some (.loop r0) := by
    have := World.alloc_heap_new (w.alloc (.deferred (some []))) (.loop r0); rwa [World.size_alloc] at this
  have hD : W1.heap[w.heap.size]? = some (.deferred (some [])) := (Below.heap_alloc _ _ _ (by simp)).trans (World.alloc_heap_new w _)
  have hT : TurnFrom w.heap.size w W1 := (TurnFrom.alloc _ w _).trans (TurnFrom.alloc _ _ _)
  refine ⟨w.heap.size + 1, [{ target := .collected w.heap.size, args := #[] }], W1, { target := .fn (.func gf) lb, args := #[.func (.yield (w.heap.size + 1)) #[] #[]] }, W1, gf, #[.func (.yield (w.heap.size + 1)) #[] #[]] ++ lb, W1, run_enterLoop_outer _ _ _ _ _, ?_, fun _ _ => trivial, ?_, ?_, ?_⟩
  · simp only [resolve, hg]
    simp [go_sem]
  · simp [invoke, go_sem, eg]
  · intro h; simp [Fence.wide] at h
  refine (hit r0 (w.heap.size + 1)
    (fun i W => I i W ∧ W.heap[w.heap.size + 1]? = some (.loop r0) ∧ W.heap[w.heap.size]? = some (.deferred (some [])))
    (fun W => Ix W ∧ W.heap[w.heap.size + 1]? = some (.loop { r0 with state := .done, pending := some .ret }) ∧ W.heap[w.heap.size]? = some (.deferred (some [])))
    (fun i A B ⟨q1, q2, q3⟩ ht => ⟨hI i A B q1 (ht.lower (by show _ ≤ W1.heap.size; omega)), ht.same _ _ q2 (.inl (by show _ < W1.heap.size; omega)), ht.same _ _ q3 (.inl (by show _ < W1.heap.size; omega))⟩)
    (fun A B ⟨q1, q2, q3⟩ ht => ⟨hIx A B q1 (ht.lower (by show _ ≤ W1.heap.size; omega)), ht.same _ _ q2 (.inl (by show _ < W1.heap.size; omega)), ht.same _ _ q3 (.inl (by show _ < W1.heap.size; omega))⟩)
    ?_ ⟨hI 0 w W1 h0 hT, hL, hD⟩ (n - 1)).mono ?_
  · -- a round
    rintro i x W hx ⟨q1, q2, q3⟩ m
    refine ⟨fn, _, assign, body, run_yield q2 (hps x), roundIn_depth (n := 5) (roundIn_of_wpIn trivial (hassign _ i x W _ hx q1 fun a₁ W' hk1 hi' => ?_))⟩
    have q2' := hk1.same _ _ q2 (.inr rfl)
    have q3' := hk1.same _ _ q3 (.inr rfl)
    have hlt : w.heap.size + 1 < W'.heap.size := (Array.getElem?_eq_some_iff.1 q2').1
    refine ⟨_, run_beginRound q2' rfl, ?_⟩
    have hb : (W'.putObj (w.heap.size + 1) (.loop { r0 with state := .busy })).heap[w.heap.size + 1]? = some (.loop { r0 with state := .busy }) := World.putObj_heap_same hlt
    have hb2 : (W'.putObj (w.heap.size + 1) (.loop { r0 with state := .busy })).heap[w.heap.size]? = some (.deferred (some [])) := (World.putObj_heap_other (by omega)).trans q3'
    refine wpIn_mono (hbody _ i x _ _ hx (hI' i x a₁ W' _ hi' (TurnFrom.putObj _ (by omega) q2' rfl))) ?_
    intro e a3 W3 hp
    cases e with
    | normal =>
      obtain ⟨hk, hi⟩ := hp
      have h3 := hk.same _ _ hb (.inr rfl)
      have h4 := hk.same _ _ hb2 (.inr rfl)
      have hlt3 : w.heap.size + 1 < W3.heap.size := (Array.getElem?_eq_some_iff.1 h3).1
      exact ⟨_, _, run_endRound none h3, .inl ⟨rfl, ⟨hI _ W3 _ hi (TurnFrom.putObj _ (by omega) h3 rfl), World.putObj_heap_same hlt3, (World.putObj_heap_other (by omega)).trans h4⟩, hk1.trans (KpT.round q2' hk)⟩⟩
    | ret =>
      obtain ⟨hk, hi⟩ := hp
      have h3 := hk.same _ _ hb (.inr rfl) (by omega)
      have h4 := hk.same _ _ hb2 (.inr rfl) (by omega)
      have hlt3 : w.heap.size + 1 < W3.heap.size := (Array.getElem?_eq_some_iff.1 h3).1
      refine ⟨_, _, run_endRound (some .ret) h3, .inr ⟨rfl, ⟨hIx W3 _ hi (TurnFrom.putObj _ (by omega) h3 rfl), World.putObj_heap_same hlt3, (World.putObj_heap_other (by omega)).trans h4⟩, ?_, fun k o hk0 ho hl => ?_⟩⟩
      · have := hk.size; have := hk1.size; simp at *; omega
      · have hl' : w.heap.size + 1 + 1 ≤ k := by have : W1.heap.size ≤ k := hl; omega
        have hk2 := hk1.same k o hk0 ho
        exact (World.putObj_heap_other (by omega)).trans (hk.same k o ((World.putObj_heap_other (by omega)).trans hk2) ho (by omega))
    | exit id => exact hp.elim
    | goto t => exact hp.elim
    | panic c => exact hp.elim
    | outgrown => exact hp.elim
  · -- behind the iterator
    rintro e W ⟨⟨v, rfl⟩, ⟨q1, q2, q3⟩ | ⟨q1, q2, q3⟩⟩
    · exact ⟨none, _, run_endLoop q2 (by simp [r0]), hdone _ _ (Nat.le_refl _) (hI _ W _ q1 (TurnFrom.putObj _ (by omega) q2 rfl)) ((World.putObj_heap_other (by omega)).trans q3)⟩
    · exact ⟨some .ret, _, run_endLoop q2 (by simp), hstop _ _ (Nat.le_refl _) (hIx W _ q1 (TurnFrom.putObj _ (by omega) q2 rfl)) ((World.putObj_heap_other (by omega)).trans q3)⟩
end Go.Proofs.YtfinjenkgpndlaaGreatDoor.PA

namespace Go.Proofs.YtfinjenkgpndlaaGreatDoor.PA
open Go.RowKit Go.Shelf Go.Proofs.YtfinjenkgpndlaaGreatDoorW.PrintWords Go.Proofs.YtfinjenkgpndlaaGreatDoorW.PrintLast Go.Proofs.YtfinjenkgpndlaaGreatDoorW.PrintMore
set_option linter.unusedVariables false
set_option linter.unusedSimpArgs false

structure KpP (Pk : Nat → Obj → Prop) (W W' : World) : Prop where
  size : W.heap.size ≤ W'.heap.size
  same : ∀ (k : Nat) (o : Obj), W.heap[k]? = some o → Pk k o → W'.heap[k]? = some o
theorem KpP.refl (Pk : Nat → Obj → Prop) (W : World) : KpP Pk W W := ⟨Nat.le_refl _, fun _ _ h _ => h⟩
theorem KpP.trans {Pk : Nat → Obj → Prop} {X Y Z : World} (h : KpP Pk X Y) (k : KpP Pk Y Z) : KpP Pk X Z := ⟨Nat.le_trans h.size k.size, fun i o hi ho => k.same i o (h.same i o hi ho) ho⟩
theorem KpP.of_below {Pk : Nat → Obj → Prop} {W W' : World} (h : Below W.heap.size W W') : KpP Pk W W' := ⟨h.size, fun k o hk _ => (h.block k (Array.getElem?_eq_some_iff.1 hk).1).trans hk⟩
theorem KpP.round {Pk : Nat → Obj → Prop} {W W3 : World} {l : Nat} {o o' : Obj} (hl : W.heap[l]? = some o) (h : KpP Pk (W.putObj l o') W3) : KpP Pk W (W3.putObj l o) := by
  have hlt : l < W.heap.size := (Array.getElem?_eq_some_iff.1 hl).1
  refine ⟨by have := h.size; simp at this ⊢; omega, fun k o2 hk ho2 => ?_⟩
  by_cases e : k = l
  · subst e
    rw [hk] at hl; cases hl
    exact World.putObj_heap_same (by have := h.size; simp at this; omega)
  · exact (World.putObj_heap_other e).trans (h.same k o2 ((World.putObj_heap_other e).trans hk) ho2)
structure KpQ (Pk : Nat → Obj → Prop) (s : Nat) (W W' : World) : Prop where
  size : W.heap.size ≤ W'.heap.size
  same : ∀ (k : Nat) (o : Obj), W.heap[k]? = some o → Pk k o → s ≤ k → W'.heap[k]? = some o
theorem KpP.e {Pk : Nat → Obj → Prop} {W W' : World} (h : KpP Pk W W') (s : Nat) : KpQ Pk s W W' := ⟨h.size, fun k o hk ho _ => h.same k o hk ho⟩
theorem KpP.setCell {Pk : Nat → Obj → Prop} {W : World} {p : Addr} {v : Value} (h : ∀ o, W.heap[p.block]? = some o → ¬ Pk p.block o) : KpP Pk W (W.setCell p v) := by
  refine ⟨by simp, fun k o hk ho => ?_⟩
  by_cases e : k = p.block
  · subst e; exact absurd ho (h o hk)
  · exact (Below.heap_setCell W p v k e).trans hk
def turnPostP (Pk : Nat → Obj → Prop) (s : Nat) (I : Nat → World → Prop) (Ix : World → Prop) (i : Nat) (W : World) : Exit → Act → World → Prop
  | .normal, _, W' => KpP Pk W W' ∧ I (i + 1) W'
  | .ret, _, W' => KpQ Pk s W W' ∧ Ix W'
  | _, _, _ => False
theorem below_put {n : Nat} {W : World} {l : Nat} (o : Obj) (hl : n ≤ l) : Below n W (W.putObj l o) :=
  ⟨rfl, rfl, rfl, by simp, fun k hk => World.putObj_heap_other (by omega)⟩
def IterR {α : Type} (Pk : Nat → Obj → Prop) (P : Program) (gf : Nat) (lb : Array Value) (Enc : α → Array Value → Prop) (xs : List α) (W : World) : Prop :=
  ∀ (l : Nat) (J : Nat → World → Prop) (Jx : World → Prop), (∀ i A B, J i A → Below W.heap.size A B → J i B) → (∀ A B, Jx A → Below W.heap.size A B → Jx B) →
    (∀ (i : Nat) (x : α) (v : Array Value) (A : World), xs[i]? = some x → Enc x v → J i A → ∀ m, YieldAt Fence.wide m P l v A fun e B => (e = .returned (.bool true) ∧ J (i + 1) B ∧ KpP Pk A B) ∨ (e = .returned (.bool false) ∧ Jx B ∧ KpQ Pk W.heap.size A B)) →
    J 0 W → ∀ n, CallsIn Fence.wide n P gf (#[.func (.yield l) #[] #[]] ++ lb) W fun e B => (∃ v, e = .returned v) ∧ (J xs.length B ∨ Jx B)

theorem range_turn3 {α : Type} {Pk : Nat → Obj → Prop} (hP : ∀ k o, loopish o = true → Pk k o) {P : Program} {n : Nat} {g : Operand} {ps : Array Tmp} {assign body : Code} {Q : Exit → Act → World → Prop} {a : Act} {w : World}
    {gf : Nat} {lb : Array Value} (hg : a.eval g = .func (.func gf) #[] lb) (eg : ∀ args w, (callFunc gf args).run P w = .ok (.enter gf args) w) {Enc : α → Array Value → Prop} (hps : ∀ x v, Enc x v → v.size = ps.size) {xs : List α}
    (hit : ∀ r, IterR Pk P gf lb Enc xs ((w.alloc (.deferred (some []))).alloc (.loop r)))
    (I : Nat → World → Prop) (Ix : World → Prop) (hI : ∀ i A B, I i A → Below w.heap.size A B → I i B) (hIx : ∀ A B, Ix A → Below w.heap.size A B → Ix B) (h0 : I 0 w) (I' : Nat → α → Act → World → Prop) (hI' : ∀ i x a A B, I' i x a A → TurnFrom w.heap.size A B → I' i x a B)
    (hassign : ∀ (l i : Nat) (x : α) (v : Array Value) (W : World) (K : Act → World → Prop), xs[i]? = some x → Enc x v → I i W → (∀ a₁ W', KpP Pk W W' → I' i x a₁ W' → K a₁ W') →
      assign.wpIn (Fence.wide.inRound l) 5 P (Exit.then K (fun _ _ _ => False)) { tmps := (ps.zip v).foldl (fun t (p, v) => t.setIfInBounds p v) a.tmps, defers := [] } W)
    (hbody : ∀ (l i : Nat) (x : α) (a₁ : Act) (W : World), xs[i]? = some x → I' i x a₁ W → body.wpIn (Fence.wide.inRound l) 5 P (turnPostP Pk w.heap.size I Ix i W) a₁ W)
    (hdone : ∀ (D : Nat) (W : World), w.heap.size ≤ D → I xs.length W → W.heap[D]? = some (.deferred (some [])) → Q .normal { a with defers := { target := .collected D, args := #[] } :: a.defers } W)
    (hstop : ∀ (D : Nat) (W : World), w.heap.size ≤ D → Ix W → W.heap[D]? = some (.deferred (some [])) → Code.ret.wpIn Fence.wide n P Q { a with defers := { target := .collected D, args := #[] } :: a.defers } W) :
    (Code.rangeFunc g ps assign body).wpIn Fence.wide n P Q a w := by
  refine wpIn_rangeFunc fun fn _ => ?_
  let r0 : Loop := { state := .ready, pending := none, fn := fn, tmps := a.tmps, params := ps, assign := assign, body := body, defers := w.heap.size }
  let W1 : World := (w.alloc (.deferred (some []))).alloc (.loop r0)
  have hsz : W1.heap.size = w.heap.size + 1 + 1 := by simp [W1]
  have hL : W1.heap[w.heap.size + 1]? = some (.loop r0) := by
    have := World.alloc_heap_new (w.alloc (.deferred (some []))) (.loop r0); rwa [World.size_alloc] at this
  have hD : W1.heap[w.heap.size]? = some (.deferred (some [])) := (Below.heap_alloc _ _ _ (by simp)).trans (World.alloc_heap_new w _)
  have hT : Below w.heap.size w W1 := ((Below.refl _ w).alloc (Nat.le_refl _) _).alloc (by simp) _
  refine ⟨w.heap.size + 1, [{ target := .collected w.heap.size, args := #[] }], W1, { target := .fn (.func gf) lb, args := #[.func (.yield (w.heap.size + 1)) #[] #[]] }, W1, gf, #[.func (.yield (w.heap.size + 1)) #[] #[]] ++ lb, W1, run_enterLoop_outer _ _ _ _ _, ?_, fun _ _ => trivial, ?_, ?_, ?_⟩
  · simp only [resolve, hg]
    simp [go_sem]
  · simp [invoke, go_sem, eg]
  · intro h; simp [Fence.wide] at h
  refine (hit r0 (w.heap.size + 1)
    (fun i W => I i W ∧ W.heap[w.heap.size + 1]? = some (.loop r0) ∧ W.heap[w.heap.size]? = some (.deferred (some [])))
    (fun W => Ix W ∧ W.heap[w.heap.size + 1]? = some (.loop { r0 with state := .done, pending := some .ret }) ∧ W.heap[w.heap.size]? = some (.deferred (some [])))
    (fun i A B ⟨q1, q2, q3⟩ ht => ⟨hI i A B q1 (ht.mono (by show _ ≤ W1.heap.size; omega)), (ht.block _ (by show _ < W1.heap.size; omega)).trans q2, (ht.block _ (by show _ < W1.heap.size; omega)).trans q3⟩)
    (fun A B ⟨q1, q2, q3⟩ ht => ⟨hIx A B q1 (ht.mono (by show _ ≤ W1.heap.size; omega)), (ht.block _ (by show _ < W1.heap.size; omega)).trans q2, (ht.block _ (by show _ < W1.heap.size; omega)).trans q3⟩)
    ?_ ⟨hI 0 w W1 h0 hT, hL, hD⟩ (n - 1)).mono ?_
  · -- a round
    rintro i x v W hx hv ⟨q1, q2, q3⟩ m
    refine ⟨fn, _, assign, body, run_yield q2 (hps x v hv), roundIn_depth (n := 5) (roundIn_of_wpIn trivial (hassign _ i x v W _ hx hv q1 fun a₁ W' hk1 hi' => ?_))⟩
    have q2' := hk1.same _ _ q2 (hP _ _ rfl)
    have q3' := hk1.same _ _ q3 (hP _ _ rfl)
    have hlt : w.heap.size + 1 < W'.heap.size := (Array.getElem?_eq_some_iff.1 q2').1
    refine ⟨_, run_beginRound q2' rfl, ?_⟩
    have hb : (W'.putObj (w.heap.size + 1) (.loop { r0 with state := .busy })).heap[w.heap.size + 1]? = some (.loop { r0 with state := .busy }) := World.putObj_heap_same hlt
    have hb2 : (W'.putObj (w.heap.size + 1) (.loop { r0 with state := .busy })).heap[w.heap.size]? = some (.deferred (some [])) := (World.putObj_heap_other (by omega)).trans q3'
    refine wpIn_mono (hbody _ i x _ _ hx (hI' i x a₁ W' _ hi' (TurnFrom.putObj _ (by omega) q2' rfl))) ?_
    intro e a3 W3 hp
    cases e with
    | normal =>
      obtain ⟨hk, hi⟩ := hp
      have h3 := hk.same _ _ hb (hP _ _ rfl)
      have h4 := hk.same _ _ hb2 (hP _ _ rfl)
      have hlt3 : w.heap.size + 1 < W3.heap.size := (Array.getElem?_eq_some_iff.1 h3).1
      exact ⟨_, _, run_endRound none h3, .inl ⟨rfl, ⟨hI _ W3 _ hi (below_put _ (by omega)), World.putObj_heap_same hlt3, (World.putObj_heap_other (by omega)).trans h4⟩, hk1.trans (KpP.round q2' hk)⟩⟩
    | ret =>
      obtain ⟨hk, hi⟩ := hp
      have h3 := hk.same _ _ hb (hP _ _ rfl) (by omega)
      have h4 := hk.same _ _ hb2 (hP _ _ rfl) (by omega)
      have hlt3 : w.heap.size + 1 < W3.heap.size := (Array.getElem?_eq_some_iff.1 h3).1
      refine ⟨_, _, run_endRound (some .ret) h3, .inr ⟨rfl, ⟨hIx W3 _ hi (below_put _ (by omega)), World.putObj_heap_same hlt3, (World.putObj_heap_other (by omega)).trans h4⟩, ?_, fun k o hk0 ho hl => ?_⟩⟩
      · have := hk.size; have := hk1.size; simp at *; omega
      · have hl' : w.heap.size + 1 + 1 ≤ k := by have : W1.heap.size ≤ k := hl; omega
        have hk2 := hk1.same k o hk0 ho
        exact (World.putObj_heap_other (by omega)).trans (hk.same k o ((World.putObj_heap_other (by omega)).trans hk2) ho (by omega))
    | exit id => exact hp.elim
    | goto t => exact hp.elim
    | panic c => exact hp.elim
    | outgrown => exact hp.elim
  · -- behind the iterator
    rintro e W ⟨⟨v, rfl⟩, ⟨q1, q2, q3⟩ | ⟨q1, q2, q3⟩⟩
    · exact ⟨none, _, run_endLoop q2 (by simp [r0]), hdone _ _ (Nat.le_refl _) (hI _ W _ q1 (below_put _ (by omega))) ((World.putObj_heap_other (by omega)).trans q3)⟩
    · exact ⟨some .ret, _, run_endLoop q2 (by simp), hstop _ _ (Nat.le_refl _) (hIx W _ q1 (below_put _ (by omega))) ((World.putObj_heap_other (by omega)).trans q3)⟩
end Go.Proofs.YtfinjenkgpndlaaGreatDoor.PA

namespace Go.Proofs.YtfinjenkgpndlaaGreatDoor.PA
open Go.RowKit Go.Shelf Go.Proofs.YtfinjenkgpndlaaGreatDoorW.PrintWords Go.Proofs.YtfinjenkgpndlaaGreatDoorW.PrintLast Go.Proofs.YtfinjenkgpndlaaGreatDoorW.PrintMore
set_option linter.unusedVariables false
set_option linter.unusedSimpArgs false

theorem preNs_short : ∀ (m : Nat) (ks r : List Nd) (k : Nat), k ≤ m → (preNs (ks.take m ++ r)).take k = (preNs (ks ++ r)).take k
  | m, [], r, k, h => by rw [List.take_nil]
  | 0, y :: ys, r, k, h => by
    obtain rfl : k = 0 := by omega
    simp
  | m + 1, y :: ys, r, k, h => by
    rw [List.take_succ_cons, List.cons_append, List.cons_append, preNs_cons, preNs_cons, List.take_append, List.take_append]
    have hp : 1 ≤ (preN y).length := by rw [preN_eq]; simp
    rw [preNs_short m ys r (k - (preN y).length) (by omega)]
def StackOf (e : Nd) (most n : Nat) (st : List Nd) : Prop := (preNs st.reverse).take (most - n) = ((preN e).drop n).take (most - n)
theorem stack_start (e : Nd) (most : Nat) : StackOf e most 0 [e] := by
  unfold StackOf
  show (preN e ++ []).take _ = _
  rw [List.append_nil, List.drop_zero]
section
variable {e x : Nd} {most n : Nat} {s : List Nd}
theorem stack_top (h : StackOf e most n (s ++ [x])) (hn : n < most) : ((preN e).take most)[n]? = some x := by
  unfold StackOf at h
  have := congrArg (fun l : List Nd => l[0]?) h
  rw [List.reverse_append] at this
  simp only [List.reverse_cons, List.reverse_nil, List.nil_append, List.singleton_append, preNs_cons, preN_eq x] at this
  rw [List.getElem?_take_of_lt (by omega), List.getElem?_take_of_lt (by omega), List.getElem?_drop] at this
  rw [List.getElem?_take_of_lt hn]
  simpa using this.symm
theorem stack_push (h : StackOf e most n (s ++ [x])) (hn : n < most) : StackOf e most (n + 1) (s ++ (x.f4.take most).reverse) := by
  unfold StackOf at h ⊢
  rw [List.reverse_append, List.reverse_reverse, preNs_short _ _ _ _ (by omega)]
  rw [List.reverse_append] at h
  simp only [List.reverse_cons, List.reverse_nil, List.nil_append, List.singleton_append, preNs_cons, preN_eq x] at h
  have h2 := congrArg List.tail h
  obtain ⟨k, hk⟩ : ∃ k, most - n = k + 1 := ⟨most - n - 1, by omega⟩
  have hk2 : most - (n + 1) = k := by omega
  rw [hk] at h2
  rw [hk2, preNs_append]
  rw [List.cons_append, List.take_succ_cons, List.tail_cons] at h2
  rw [h2, ← List.drop_one, List.drop_take, List.drop_drop]
  simp
theorem stack_end (h : StackOf e most n []) (hn : n ≤ ((preN e).take most).length) : n = ((preN e).take most).length := by
  unfold StackOf at h
  have := congrArg List.length h
  simp only [List.reverse_nil, List.length_take, List.length_drop] at this
  have h0 : (preNs []).length = 0 := rfl
  rw [List.length_take] at hn ⊢
  rw [h0] at this
  omega
end
end Go.Proofs.YtfinjenkgpndlaaGreatDoor.PA

namespace Go.Proofs.YtfinjenkgpndlaaGreatDoor.PA
open Go.RowKit Go.Shelf Go.Proofs.YtfinjenkgpndlaaGreatDoorW.PrintWords Go.Proofs.YtfinjenkgpndlaaGreatDoorW.PrintLast Go.Proofs.YtfinjenkgpndlaaGreatDoorW.PrintMore
attribute [local go_sem] Oper.semAt_some
set_option linter.unusedVariables false
set_option linter.unusedSimpArgs false

def Old (w0 W : World) : Prop := ∀ k, k < w0.heap.size → W.heap[k]? = w0.heap[k]?
theorem Old.cell {w0 W : World} (h : Old w0 W) {a : Addr} {v : Value} (hc : w0.cell? a = some v) : W.cell? a = some v := (World.cell?_of_block (h _ (World.block_lt_of_cell? w0 a hc))).trans hc
theorem Old.below {w0 A C : World} (h : Old w0 A) (k : Below A.heap.size A C) (hl : w0.heap.size ≤ A.heap.size) : Old w0 C := fun i hi => (k.block i (by omega)).trans (h i hi)
theorem Old.of_below {w0 W : World} (h : Below w0.heap.size w0 W) : Old w0 W := fun i hi => h.block i hi
def EncN (w0 : World) (x : Nd) (v : Array Value) : Prop := ∃ A2 c2 A4 c4, v = #[.agg #[.int .i64 x.f0, .int .i64 x.f1, .slice A2 x.f2.length c2, .string x.f3, .slice A4 x.f4.length c4]] ∧ x.f2.length ≤ c2 ∧ x.f4.length ≤ c4 ∧ Kd.C k58 w0 A2 x.f2.length x.f2 ∧ Kd.C k26 w0 A4 x.f4.length x.f4
abbrev kFix (w0 : World) : Kd Nd := fixK k26 w0
theorem old_stay {w0 A B : World} {Pk : Nat → Obj → Prop} (hPw : ∀ k o, k < w0.heap.size → Pk k o) (h : Old w0 A) (k : KpP Pk A B) : Old w0 B := fun i hi => by
  have e := h i hi
  rw [Array.getElem?_eq_getElem hi] at e
  rw [Array.getElem?_eq_getElem hi]
  exact k.same i _ e (hPw i _ hi)
theorem stack_stay {w0 A B : World} {Pk : Nat → Obj → Prop} (hPn : ∀ k c f, Pk k (.cells c 26 f)) {base : Nat} {v : Value} {st : List Nd} (h : (kFix w0).R 26 A base (fun _ => True) v st) (k : KpP Pk A B) : (kFix w0).R 26 B base (fun _ => True) v st :=
  Kd.R_mono (Kd.R_move (Kd.R_bound h) (fun b hb => by
    obtain ⟨_, _, _, q, hq, c, hc⟩ := hb
    have hq' : q = 26 := by
      rcases List.mem_cons.1 hq with e | e
      · exact e
      · cases e
    subst hq'
    exact (k.same _ _ hc (hPn _ _ _)).trans hc.symm)) (fun _ hk => hk.1)
set_option maxRecDepth 100000 in
set_option maxHeartbeats 8000000 in
theorem all1_iter (Pk : Nat → Obj → Prop) (w0 : World) (hPn : ∀ k c f, Pk k (.cells c 26 f)) (hPw : ∀ k o, k < w0.heap.size → Pk k o) (Be Bm : Nat) (hPm : ∀ o, Pk Bm o) (e : Nd) (A2 A4 : Option Addr) (c2 c4 : Nat) (hl2 : e.f2.length ≤ c2) (hl4 : e.f4.length ≤ c4) (hC2 : Kd.C k58 w0 A2 e.f2.length e.f2) (hC4 : Kd.C k26 w0 A4 e.f4.length e.f4)
    (W : World) (hOld : Old w0 W) (hle : w0.heap.size ≤ W.heap.size) (hE : W.heap[Be]? = some (.cells #[.int .i64 e.f0, .int .i64 e.f1, .slice A2 e.f2.length c2, .string e.f3, .slice A4 e.f4.length c4] 26 (0, 0))) (hM : W.heap[Bm]? = some (.cells #[.int .i64 401] 3 (0, 0))) :
    IterR Pk Tryz.prog 68 #[.pointer (some ⟨Be, 0, none⟩), .pointer (some ⟨Bm, 0, none⟩)] (EncN w0) ((preN e).take 401) W := by
  intro l J Jx hJ hJx hY h0 n
  have hu3 := Tryz.underlying26
  have e0 := (blk_cell hE 0).trans rfl
  have e1 := (blk_cell hE 1).trans rfl
  have e2 := (blk_cell hE 2).trans rfl
  have e3 := (blk_cell hE 3).trans rfl
  have e4 := (blk_cell hE 4).trans rfl
  refine callsIn_depth (n := 5) ?_
  refine callsIn_of_wp Tryz.func68 rfl trivial ?_ rfl
  simp only [Tryz.ntmps68, List.size_toArray, List.length_cons, List.length_nil, Nat.reduceAdd, Nat.reduceSub, Array.replicate_succ, Array.replicate_zero, List.push_toArray, List.append_toArray, List.nil_append, List.cons_append]
  have HE := Lib.hid hE
  have HM := Lib.hid hM
  have HY := Lib.hid hY
  have HJ0 := Lib.hid h0
  have HTR := Lib.hid hJ
  have hBm := blk_lt hM
  have HO := Lib.hid hOld
  have HC := Lib.hid (And.intro hC2 hC4)
  generalize hxs : (preN e).take 401 = xs at *
  have HXS := Lib.hid hxs
  clear hE hM hY h0 hJ hOld hC2 hC4 hxs
  gi_wp2
  obtain ⟨W1, hW1⟩ : ∃ W1, W.alloc (.cells #[.int .i64 e.f0, .int .i64 e.f1, .slice A2 e.f2.length c2, .string e.f3, .slice A4 e.f4.length c4] 26) = W1 := ⟨_, rfl⟩
  have hB1 : Below W.heap.size W W1 := by rw [← hW1]; exact (Below.refl _ W).alloc (Nat.le_refl _) _
  have hR1 : (kFix w0).R 26 W1 W.heap.size (fun _ => True) (.slice (some ⟨W.heap.size, 0, none⟩) 1 1) [e] := by
    rw [← hW1]
    exact fresh_R (d := kFix w0) (okp := fun _ => True) (xs := [e]) (inner := [.int .i64 e.f0, .int .i64 e.f1, .slice A2 e.f2.length c2, .string e.f3, .slice A4 e.f4.length c4]) (by
      have := Reps.snoc (Reps.none (Kd.M (kFix w0) W W.heap.size (fun _ => True)) 5) (c := [.int .i64 e.f0, .int .i64 e.f1, .slice A2 e.f2.length c2, .string e.f3, .slice A4 e.f4.length c4]) (p := e) (k26_mk w0 e hl2 HC.out.1 hl4 HC.out.2) rfl
      exact this) (Nat.le_refl _) (by simp)
  rw [hW1]
  have HO1 := Lib.hid (HO.out.below hB1 hle)
  have HR1 := Lib.hid hR1
  have HJ1 := Lib.hid (HTR.out _ _ _ HJ0.out hB1)
  have HM1 := Lib.hid ((hB1.block _ (blk_lt HM.out)).trans HM.out)
  have HS1 := Lib.hid hB1.size
  clear hR1 hB1 hW1 HJ0 HE HO HM HC
  gi_loopw [4, 5] (fun v i wr => ∃ (k : Nat) (st : List Nd), i = .int .i64 k ∧ k ≤ 401 ∧ k ≤ xs.length ∧ st.length ≤ 1 + 401 * k ∧ W.heap.size ≤ wr.heap.size ∧ Hid ((kFix w0).R 26 wr W.heap.size (fun _ => True) v st) ∧ Hid (StackOf e 401 k st) ∧ Hid (J k wr) ∧ Hid (Old w0 wr) ∧ Hid (wr.heap[Bm]? = some (.cells #[.int .i64 401] 3 (0, 0)))) (fun _ i _ => (401 - intOf i).toNat)
  case atStart =>
    exact ⟨0, [e], rfl, by omega, Nat.zero_le _, by simp, HS1.out, HR1, Lib.hid (stack_start e 401), HJ1, HO1, HM1⟩
  case round =>
    clear HR1 HJ1 HO1 HM1 HS1 e0 e1 e2 e3 e4
    obtain ⟨k, st, rfl, hk, hkx, hst, hws, hR, hS, hJs, hOs, hMs⟩ := hrel
    obtain ⟨A, c, rfl⟩ := Kd.R_slice hR.out
    have hcm := (blk_cell hMs.out 0).trans rfl
    by_cases hgo : 0 < st.length ∧ k < 401
    · obtain ⟨hn, hk1⟩ := hgo
      obtain ⟨s, x, rfl⟩ : ∃ s x, st = s ++ [x] := by
        have hne : st ≠ [] := by intro e; subst e; simp at hn
        exact ⟨st.dropLast, st.getLast hne, (List.dropLast_concat_getLast hne).symm⟩
      obtain ⟨g, rfl, hgl⟩ : ∃ g, A = some ⟨g, 0, none⟩ ∧ g < wr.heap.size := by
        obtain ⟨inner, hown⟩ := Kd.R_own hR.out
        obtain ⟨g, cap, e', _, h4⟩ := hown.form hn
        cases e'
        exact ⟨g, rfl, h4⟩
      have hxx : (s ++ [x])[s.length]? = some x := by simp
      obtain ⟨cs, hcl, hK, hcs⟩ := R_cells hR.out hxx
      obtain ⟨X2, y2, X4, y4, rfl, hy2, hX2, hy4, hX4⟩ := k26_open hK
      have hlen : (s ++ [x]).length = s.length + 1 := by simp
      have hst' : s.length ≤ 401 * k := by omega
      have hcap : s.length + 1 ≤ c := by
        obtain ⟨_, _, e', h', _⟩ := Kd.R_reads hR.out
        cases e'
        rw [hlen] at h'
        exact h'
      rw [hlen] at hR ⊢
      clear hlen hst hn
      generalize hm : s.length = m at *
      have d0 : wr.cell? ⟨g, m * 5, none⟩ = some (.int .i64 x.f0) := hcs 0 _ rfl
      have d1 : wr.cell? ⟨g, m * 5 + 1, none⟩ = some (.int .i64 x.f1) := hcs 1 _ rfl
      have d2 : wr.cell? ⟨g, m * 5 + 2, none⟩ = some (.slice X2 x.f2.length y2) := hcs 2 _ rfl
      have d3 : wr.cell? ⟨g, m * 5 + 3, none⟩ = some (.string x.f3) := hcs 3 _ rfl
      have d4 : wr.cell? ⟨g, m * 5 + 4, none⟩ = some (.slice X4 x.f4.length y4) := hcs 4 _ rfl
      have b1 : decide (((m + 1 : Nat) : Int) > 0) = true := decide_eq_true (by omega)
      have b2 : decide ((0 : Int) < ((m + 1 : Nat) : Int)) = true := decide_eq_true (by omega)
      have b3 : decide ((k : Int) < 401) = true := decide_eq_true (by omega)
      have HM2 := Lib.hid hm
      clear hm
      have HK := Lib.hid (And.intro hX2 hX4)
      have HTOP := Lib.hid (stack_top hS.out hk1)
      clear hcs hK hxx hX2 hX4 hcl
      obtain ⟨w4, hw4⟩ : ∃ w4, wr.alloc (.cells #[.int .i64 x.f0, .int .i64 x.f1, .slice X2 x.f2.length y2, .string x.f3, .slice X4 x.f4.length y4] 26) = w4 := ⟨_, rfl⟩
      have hB4 : Below wr.heap.size wr w4 := by rw [← hw4]; exact (Below.refl _ wr).alloc (Nat.le_refl _) _
      have ho4 : w4.heap[wr.heap.size]? = some (.cells #[.int .i64 x.f0, .int .i64 x.f1, .slice X2 x.f2.length y2, .string x.f3, .slice X4 x.f4.length y4] 26 (0, 0)) := by rw [← hw4]; exact heap_alloc_new wr _
      have hR4 : (kFix w0).R 26 w4 W.heap.size (fun _ => True) (.slice (some ⟨g, 0, none⟩) m c) s := by
        have h := R_take (Kd.R_below hR.out hB4) m (by rw [List.length_append, HM2.out]; omega)
        rwa [← HM2.out, List.take_left, HM2.out] at h
      have t0 := (blk_cell ho4 0).trans rfl
      have t1 := (blk_cell ho4 1).trans rfl
      have t2 := (blk_cell ho4 2).trans rfl
      have t3 := (blk_cell ho4 3).trans rfl
      have t4 := (blk_cell ho4 4).trans rfl
      have hJ4 := HTR.out _ _ _ hJs.out (hB4.mono hws)
      have hx4 : xs[k]? = some x := by rw [← HXS.out]; exact HTOP.out
      have hy := HY.out k x #[.agg #[.int .i64 x.f0, .int .i64 x.f1, .slice X2 x.f2.length y2, .string x.f3, .slice X4 x.f4.length y4]] w4 hx4 ⟨X2, y2, X4, y4, rfl, hy2, hy4, HK.out⟩ hJ4 (5 - 1)
      obtain ⟨fn, tmps, assign, body, hy, hRd⟩ := hy
      have HR := Lib.hid hRd
      have HO4 := Lib.hid (hOs.out.below hB4 (by omega))
      have HB4 := Lib.hid hB4
      have HR4 := Lib.hid hR4
      have HN4 := Lib.hid ho4
      have HX4 := Lib.hid hx4
      have HM4 := Lib.hid ((hB4.block _ (blk_lt hMs.out)).trans hMs.out)
      have hs4 : wr.heap.size < w4.heap.size := blk_lt ho4
      clear hB4 ho4 hR4 hJ4 hRd hx4
      gi_wp2
      refine (roundIn_depth HR.out).mono ?_
      rintro e' W3 (⟨rfl, hJ3, hk3⟩ | ⟨rfl, hJx3, _⟩)
      · have hb3 : W3.heap[wr.heap.size]? = some (.cells #[.int .i64 x.f0, .int .i64 x.f1, .slice X2 x.f2.length y2, .string x.f3, .slice X4 x.f4.length y4] 26 (0, 0)) := hk3.same _ _ HN4.out (hPn _ _ _)
        have t4 := (blk_cell hb3 4).trans rfl
        have hM3 : W3.heap[Bm]? = some (.cells #[.int .i64 401] 3 (0, 0)) := hk3.same _ _ HM4.out (hPm _)
        have hcm := (blk_cell hM3 0).trans rfl
        have HM3 := Lib.hid hM3
        have HN3 := Lib.hid hb3
        have HO3 := Lib.hid (old_stay hPw HO4.out hk3)
        have HR3 := Lib.hid (stack_stay hPn HR4.out hk3)
        have HJ3 := Lib.hid hJ3
        have hs3 := hk3.size
        clear hJ3 hk3 HR hy t0 t1 t2 t3 hw4 hM3 hb3 HO4 HB4 HR4 HN4 HM4 d0 d1 d2 d3 d4 hJs hOs hMs hR
        generalize wr.heap.size = bx at *
        gi_wp2
        all_goals
          gi_loopw [4, 7] (fun v i wi => ∃ q : Nat, i = .int .i64 ((q : Int) - 1) ∧ q ≤ x.f4.length ∧ q ≤ 401 ∧ W3.heap.size ≤ wi.heap.size ∧ Hid ((kFix w0).R 26 wi W.heap.size (fun b => b ≠ bx) v (s ++ ((x.f4.take 401).drop q).reverse)) ∧ Hid (Below W.heap.size W3 wi) ∧ Hid (wi.heap[bx]? = some (.cells #[.int .i64 x.f0, .int .i64 x.f1, .slice X2 x.f2.length y2, .string x.f3, .slice X4 x.f4.length y4] 26 (0, 0)))) (fun _ i _ => (intOf i + 1).toNat)
          case atStart =>
            refine ⟨min x.f4.length 401, by first | (rw [Nat.min_eq_right (by omega)]; rfl) | (rw [Nat.min_eq_left (by omega)]; done) | exact congrArg (Value.int .i64) (by omega), by omega, by omega, Nat.le_refl _, ?_, Lib.hid (Below.refl _ _), HN3⟩
            have hnil : (x.f4.take 401).drop (min x.f4.length 401) = [] := List.drop_eq_nil_of_le (by rw [List.length_take]; omega)
            rw [hnil, List.reverse_nil, List.append_nil]
            exact Lib.hid ⟨fun b hb => by cases hb; show g ≠ bx; omega, HR3.out.2⟩
          case round =>
            obtain ⟨q, rfl, hq1, hq2, hwi, hRi, hBi, hNi⟩ := hrel
            have t4 := (blk_cell hNi.out 4).trans rfl
            obtain ⟨Ai, ci, rfl⟩ := Kd.R_slice hRi.out
            by_cases hq : 0 < q
            · obtain ⟨p, rfl⟩ : ∃ p, q = p + 1 := ⟨q - 1, by omega⟩
              have hlt : p < x.f4.length := by omega
              obtain ⟨b4, o4, rfl, hb4⟩ := C_plain HK.out.2 (by omega) (by decide)
              obtain ⟨ks, hkl, hKk, hkc⟩ := C_cell HK.out.2 (List.getElem?_eq_getElem hlt)
              obtain ⟨Y2, z2, Y4, z4, rfl, hz2, hY2, hz4, hY4⟩ := k26_open hKk
              generalize hkid : x.f4[p] = kid at *
              have hoi : Old w0 wr := fun i hi => (hBi.out.block i (by omega)).trans (HO3.out i hi)
              have d0 : wr.cell? ⟨b4, o4 + p * 5, none⟩ = some (.int .i64 kid.f0) := hoi.cell (hkc 0 _ rfl)
              have d1 : wr.cell? ⟨b4, o4 + p * 5 + 1, none⟩ = some (.int .i64 kid.f1) := hoi.cell (hkc 1 _ rfl)
              have d2 : wr.cell? ⟨b4, o4 + p * 5 + 2, none⟩ = some (.slice Y2 kid.f2.length z2) := hoi.cell (hkc 2 _ rfl)
              have d3 : wr.cell? ⟨b4, o4 + p * 5 + 3, none⟩ = some (.string kid.f3) := hoi.cell (hkc 3 _ rfl)
              have d4 : wr.cell? ⟨b4, o4 + p * 5 + 4, none⟩ = some (.slice Y4 kid.f4.length z4) := hoi.cell (hkc 4 _ rfl)
              have hln : (s ++ ((x.f4.take 401).drop (p + 1)).reverse).length ≤ 401 * k + 401 := by
                rw [List.length_append, HM2.out, List.length_reverse, List.length_drop, List.length_take]; omega
              have hsn : (s ++ ((x.f4.take 401).drop (p + 1)).reverse) ++ [kid] = s ++ ((x.f4.take 401).drop p).reverse := by
                have h401 : p < (x.f4.take 401).length := by rw [List.length_take]; omega
                rw [List.drop_eq_getElem_cons h401, List.getElem_take, hkid, List.reverse_cons, List.append_assoc]
              generalize hL : s ++ ((x.f4.take 401).drop (p + 1)).reverse = L at *
              have HSN := Lib.hid hsn
              have HKK := Lib.hid (k26_mk w0 kid hz2 hY2 hz4 hY4)
              have HRI := Lib.hid hRi.out
              have HBI := Lib.hid hBi.out
              have HNI := Lib.hid hNi.out
              have b1 : decide ((p : Int) ≥ 0) = true := decide_eq_true (by omega)
              have b2 : decide ((0 : Int) ≤ (p : Int)) = true := decide_eq_true (by omega)
              clear hkid hKk hkc hoi hY2 hY4 hkl hL hsn hRi hBi hNi hJx
              gi_wp2_with (gi_at_builtin; go_loud (refine R_appendIn (kFix w0) W.heap.size rfl (.tmp 45) (.tmp 51) 24 26 (.agg #[.int .i64 0, .int .i64 0, .slice none 0 0, .string ⟨#[]⟩, .slice none 0 0]) 80 rfl Tryz.underlying24 info26 rfl (show 0 < 5 from Nat.succ_pos 4) (by decide) (.slice Ai L.length ci) L kid [.int .i64 kid.f0, .int .i64 kid.f1, .slice Y2 kid.f2.length z2, .string kid.f3, .slice Y4 kid.f4.length z4] (fun b => b ≠ bx) (fun _ => False) rfl rfl ?aP (fun _ hk => hk.elim) ?aF HRI.out ?aS ?aL ?_); (case aP => exact HKK.out); (case aF => intro b hb; omega); (case aS => omega); (case aL => omega); intro v1 w9 ho hg hat; obtain ⟨A1, c9, e1⟩ := Kd.R_slice ho; generalize hn1 : (L ++ [kid]).length = n1 at e1; subst e1; have HR9 := Lib.hid ho; have HG9 := Lib.hid hg; have HN1 := Lib.hid hn1; clear ho hg hat hn1)
              obtain ⟨inner, hown⟩ := Kd.R_own HRI.out
              refine ⟨⟨p, rfl, by omega, by omega, Nat.le_trans hwi HG9.out.size, ?_, ?_, ?_⟩, by simp [intOf] <;> omega⟩
              · rw [← HSN.out]; exact HR9
              · exact Lib.hid (HBI.out.grown HG9.out (by omega) (fun b hb => own_base hown b hb))
              · exact Lib.hid ((HG9.out.block bx (blk_lt HNI.out) (fun e' => HRI.out.1 bx e'.symm rfl)).trans HNI.out)
            · obtain rfl : q = 0 := by omega
              have hk2 : k + 1 ≤ xs.length := (List.getElem?_eq_some_iff.1 HX4.out).1
              have hln : (s ++ ((x.f4.take 401).drop 0).reverse).length ≤ 1 + 401 * (k + 1) := by
                rw [List.length_append, HM2.out, List.length_reverse, List.length_drop, List.length_take]; omega
              have HRI := Lib.hid hRi.out
              have HBI := Lib.hid hBi.out
              clear hRi hBi hNi hJx t4
              generalize hnl : (s ++ ((x.f4.take 401).drop 0).reverse).length = nl at *
              gi_wp2
              refine ⟨⟨k + 1, _, rfl, by omega, hk2, by rw [hnl]; exact hln, by omega, Lib.hid ⟨fun _ _ => trivial, HRI.out.2⟩, ?_, Lib.hid (HTR.out _ _ _ HJ3.out HBI.out), Lib.hid (fun i hi => (HBI.out.block i (by omega)).trans (HO3.out i hi)), Lib.hid ((HBI.out.block _ hBm).trans HM3.out)⟩, by simp [intOf] <;> omega⟩
              rw [List.drop_zero]
              exact Lib.hid (stack_push hS.out hk1)
      · have HJ3 := Lib.hid hJx3
        clear hJx3 HR hy t0 t1 t2 t3 t4 hw4 HO4 HB4 HR4 HN4 HM4 d0 d1 d2 d3 d4 hJs hOs hMs hR
        gi_wp2
        refine bodyPost_ret (results_none rfl _ _ _) rfl ?_
        exact ⟨⟨_, rfl⟩, .inr HJ3.out⟩
    · have hkx' : k = xs.length := by
        have hxl : xs.length ≤ 401 := by rw [← HXS.out, List.length_take]; omega
        by_cases h0 : st.length = 0
        · obtain rfl := List.eq_nil_of_length_eq_zero h0
          rw [← HXS.out]
          exact stack_end hS.out (by rw [HXS.out]; exact hkx)
        · omega
      have HKX := Lib.hid hkx'
      have HJE := Lib.hid hJs.out
      clear hkx' hJs hOs hMs hJx
      generalize hsl : st.length = sl at *
      clear hsl hR hS
      by_cases h0 : 0 < sl
      · have b1 : decide ((sl : Int) > 0) = true := decide_eq_true (by omega)
        have b2 : decide ((0 : Int) < (sl : Int)) = true := decide_eq_true (by omega)
        have b3 : decide ((k : Int) < 401) = false := decide_eq_false (by omega)
        gi_wp2
        go_end0
        exact ⟨⟨_, rfl⟩, .inl (HKX.out ▸ HJE.out)⟩
      · obtain rfl : sl = 0 := by omega
        gi_wp2
        go_end0
        exact ⟨⟨_, rfl⟩, .inl (HKX.out ▸ HJE.out)⟩
end Go.Proofs.YtfinjenkgpndlaaGreatDoor.PA

namespace Go.Proofs.YtfinjenkgpndlaaGreatDoor.PA
open Go.RowKit Go.Shelf Go.Proofs.YtfinjenkgpndlaaGreatDoorW.PrintWords Go.Proofs.YtfinjenkgpndlaaGreatDoorW.PrintLast Go.Proofs.YtfinjenkgpndlaaGreatDoorW.PrintMore
set_option linter.unusedVariables false
set_option linter.unusedSimpArgs false

theorem four_put {w : World} {b : Nat} {c0 c1 c2 c3 : Value} {T : TypeId} (h : w.heap[b]? = some (.cells #[c0, c1, c2, c3] T (0, 0))) (a0 a1 a2 a3 : Value) : ((((w.setCell ⟨b, 0, none⟩ a0).setCell ⟨b, 1, none⟩ a1).setCell ⟨b, 2, none⟩ a2).setCell ⟨b, 3, none⟩ a3).heap[b]? = some (.cells #[a0, a1, a2, a3] T (0, 0)) := heap_set (heap_set (heap_set (heap_set h 0 a0) 1 a1) 2 a2) 3 a3
theorem four_below {n b : Nat} {W w : World} (h : Below n W w) (hb : n ≤ b) (a0 a1 a2 a3 : Value) : Below n W ((((w.setCell ⟨b, 0, none⟩ a0).setCell ⟨b, 1, none⟩ a1).setCell ⟨b, 2, none⟩ a2).setCell ⟨b, 3, none⟩ a3) := (((h.setCell (p := ⟨b, 0, none⟩) hb a0).setCell (p := ⟨b, 1, none⟩) hb a1).setCell (p := ⟨b, 2, none⟩) hb a2).setCell (p := ⟨b, 3, none⟩) hb a3
section
variable {W0 W : World} {g c : Nat} {A : Option Addr} {l : List Tok} {st : Rd}
set_option maxRecDepth 100000 in
set_option maxHeartbeats 4000000 in
theorem now_calls (h : RdAt W0 W g A c l st) : Calls Tryz.prog 146 #[.pointer (some ⟨g, 0, none⟩)] W fun e w' => e = .returned (tokV (nowP l st.i)) ∧ Below W.heap.size W w' := by
  have hu := Tryz.underlying105
  have hu2 := Tryz.underlying77
  have hmx : l.length ≤ 9223372036854775807 := h.row.2.1
  obtain ⟨w1, hw1⟩ : ∃ w1, W.alloc (.cells #[.int .i64 0, .int .i64 0, .string ⟨#[]⟩, .int .i32 0] 77) = w1 := ⟨_, rfl⟩
  have hb1 : Below W.heap.size W w1 := by rw [← hw1]; exact (Below.refl _ W).alloc (Nat.le_refl _) _
  have ho1 : w1.heap[W.heap.size]? = some (.cells #[.int .i64 0, .int .i64 0, .string ⟨#[]⟩, .int .i32 0] 77 (0, 0)) := by rw [← hw1]; exact heap_alloc_new W _
  have r0 : w1.cell? ⟨W.heap.size, 0, none⟩ = some (.int .i64 0) := (blk_cell ho1 0).trans rfl
  have r1 : w1.cell? ⟨W.heap.size, 1, none⟩ = some (.int .i64 0) := (blk_cell ho1 1).trans rfl
  have r2 : w1.cell? ⟨W.heap.size, 2, none⟩ = some (.string ⟨#[]⟩) := (blk_cell ho1 2).trans rfl
  have r3 : w1.cell? ⟨W.heap.size, 3, none⟩ = some (.int .i32 0) := (blk_cell ho1 3).trans rfl
  have f0 := blk_frozen ho1 0
  have f1 := blk_frozen ho1 1
  have f2 := blk_frozen ho1 2
  have f3 := blk_frozen ho1 3
  have h1 := h.later hb1
  have k0 := h1.c0
  have k1 := h1.c1
  have HR := Lib.hid h1.row'
  have HB := Lib.hid hb1
  have HO := Lib.hid ho1
  clear h h1 hb1 ho1
  go_enter Tryz.func146, Tryz.ntmps146
  by_cases hneg : st.i < 0
  · have hd : decide (st.i < 0) = true := decide_eq_true hneg
    have hv : nowP l st.i = zTok := by unfold nowP; rw [if_pos hneg]
    rw [hv]
    go_wp2
    go_quiet (fail)
    go_wp2
    refine bodyPost_ret (results_cell_row rfl _ _ W.heap.size 77 #[.int .i64 0, .int .i64 0, .string ⟨#[]⟩, .int .i32 0] (0, 0) _ rfl (four_put (blk_drewN HO.out _) _ _ _ _) Tryz.underlying77 rfl (by kernel_rfl)) rfl ?_
    exact ⟨rfl, four_below (pw_below_drewN HB.out _) (Nat.le_refl _) _ _ _ _⟩
  · have hd : decide (st.i < 0) = false := decide_eq_false hneg
    by_cases hbig : (l.length : Int) ≤ st.i
    · have hd2 : decide (st.i ≥ (l.length : Int)) = true := decide_eq_true hbig
      have hd3 : decide ((l.length : Int) ≤ st.i) = true := decide_eq_true hbig
      have hv : nowP l st.i = zTok := by
        unfold nowP
        rw [if_neg hneg, List.getD_eq_getElem?_getD, List.getElem?_eq_none (by omega)]
        rfl
      rw [hv]
      go_wp2
      go_quiet (fail)
      go_wp2
      refine bodyPost_ret (results_cell_row rfl _ _ W.heap.size 77 #[.int .i64 0, .int .i64 0, .string ⟨#[]⟩, .int .i32 0] (0, 0) _ rfl (four_put (blk_drewN HO.out _) _ _ _ _) Tryz.underlying77 rfl (by kernel_rfl)) rfl ?_
      exact ⟨rfl, four_below (pw_below_drewN HB.out _) (Nat.le_refl _) _ _ _ _⟩
    · have hd2 : decide (st.i ≥ (l.length : Int)) = false := decide_eq_false hbig
      have hd3 : decide ((l.length : Int) ≤ st.i) = false := decide_eq_false hbig
      have hv : nowP l st.i = rd_T77 l st.i := by unfold nowP; rw [if_neg hneg]; rfl
      rw [hv]
      obtain ⟨ad, rfl, hx0, hx1, hx2, hx3⟩ := at_T77 HR.out st.i (by omega) (by omega)
      generalize rd_T77 l st.i = t at hx0 hx1 hx2 hx3
      clear hv
      go_wp2
      go_quiet (fail)
      go_wp2
      obtain ⟨w2, hw2⟩ : ∃ w2, w1.drewN nq = w2 := ⟨_, rfl⟩
      have HB2 := Lib.hid (show Below W.heap.size W w2 by rw [← hw2]; exact pw_below_drewN HB.out nq)
      have HO2 : Hid (w2.heap[W.heap.size]? = some (.cells #[.int .i64 0, .int .i64 0, .string ⟨#[]⟩, .int .i32 0] 77 (0, 0))) := Lib.hid (by rw [← hw2]; exact blk_drewN HO.out nq)
      have s0 : w2.cell? ⟨g, 0, none⟩ = some (.slice (some ad) l.length c) := by rw [← hw2]; exact k0
      have s1 : w2.cell? ⟨g, 1, none⟩ = some (.int .i64 st.i) := by rw [← hw2]; exact k1
      have y0 : w2.cell? (ad.add (st.i.toNat * 4)) = some (.int .i64 t.f0) := by rw [← hw2]; exact hx0
      have y1 : w2.cell? ⟨(ad.add (st.i.toNat * 4)).block, (ad.add (st.i.toNat * 4)).off + 1, none⟩ = some (.int .i64 t.f1) := by rw [← hw2]; exact hx1
      have y2 : w2.cell? ⟨(ad.add (st.i.toNat * 4)).block, (ad.add (st.i.toNat * 4)).off + 2, none⟩ = some (.string t.f2) := by rw [← hw2]; exact hx2
      have y3 : w2.cell? ⟨(ad.add (st.i.toNat * 4)).block, (ad.add (st.i.toNat * 4)).off + 3, none⟩ = some (.int .i32 t.f3) := by rw [← hw2]; exact hx3
      have q0 := (blk_cell HO2.out 0).trans rfl
      have q1 := (blk_cell HO2.out 1).trans rfl
      have q2 := (blk_cell HO2.out 2).trans rfl
      have q3 := (blk_cell HO2.out 3).trans rfl
      have g0 := blk_frozen HO2.out 0
      have g1 := blk_frozen HO2.out 1
      have g2 := blk_frozen HO2.out 2
      have g3 := blk_frozen HO2.out 3
      rw [hw2]
      clear hw2 hw1 HO HB k0 k1 hx0 hx1 hx2 hx3 r0 r1 r2 r3 f0 f1 f2 f3 HR
      go_still_tail 10, (by kernel_rfl)
      change wpList _ _ _ _ _ w2.drew
      go_wp2
      refine bodyPost_ret (results_cell_row rfl _ _ W.heap.size 77 #[.int .i64 t.f0, .int .i64 t.f1, .string t.f2, .int .i32 t.f3] (0, 0) _ rfl (four_put (show w2.drew.heap[W.heap.size]? = _ from HO2.out) _ _ _ _) Tryz.underlying77 rfl (by kernel_rfl)) rfl ?_
      exact ⟨rfl, four_below (show Below W.heap.size W w2.drew from ⟨HB2.out.os, HB2.out.tape, HB2.out.output, HB2.out.size, HB2.out.block⟩) (Nat.le_refl _) _ _ _ _⟩
end
end Go.Proofs.YtfinjenkgpndlaaGreatDoor.PA

namespace Go.Proofs.YtfinjenkgpndlaaGreatDoor.PA
open Go.RowKit Go.Shelf Go.Proofs.YtfinjenkgpndlaaGreatDoorW.PrintWords Go.Proofs.YtfinjenkgpndlaaGreatDoorW.PrintLast Go.Proofs.YtfinjenkgpndlaaGreatDoorW.PrintMore
set_option linter.unusedVariables false
set_option linter.unusedSimpArgs false

theorem toList_loop (bs : ByteArray) : ∀ (n i : Nat) (r : List UInt8), bs.size - i = n → ByteArray.toList.loop bs i r = r.reverse ++ bs.data.toList.drop i
  | 0, i, r, h => by
    unfold ByteArray.toList.loop
    have hs : bs.data.toList.length = bs.size := by rw [Array.length_toList]; rfl
    rw [if_neg (by omega), List.drop_eq_nil_of_le (by omega), List.append_nil]
  | n + 1, i, r, h => by
    unfold ByteArray.toList.loop
    have hs : bs.data.toList.length = bs.size := by rw [Array.length_toList]; rfl
    rw [if_pos (by omega), toList_loop bs n (i + 1) _ (by omega)]
    have hi : i < bs.data.toList.length := by omega
    rw [List.drop_eq_getElem_cons hi]
    have e : bs.get! i = bs.data.toList[i] := by
      show bs.data[i]! = _
      have hi' : i < bs.data.size := by rw [Array.length_toList] at hi; exact hi
      rw [getElem!_pos bs.data i hi']; simp
    rw [e]; simp
theorem toList_data (bs : ByteArray) : bs.toList = bs.data.toList := by
  unfold ByteArray.toList
  rw [toList_loop bs _ 0 [] rfl]; rfl

section
variable {W0 W : World} {g c : Nat} {A : Option Addr} {l : List Tok} {st : Rd}
set_option maxRecDepth 100000 in
set_option maxHeartbeats 4000000 in
theorem is_calls (h : RdAt W0 W g A c l st) (ch : UInt8) : Calls Tryz.prog 125 #[.pointer (some ⟨g, 0, none⟩), .string ⟨#[ch]⟩] W fun e w' => e = .returned (.bool (isP l st ch)) ∧ Below W.heap.size W w' := by
  have hu := Tryz.underlying105
  have hu2 := Tryz.underlying77
  have HN := Lib.hid (now_calls h)
  have HH := Lib.hid h
  unfold isP
  generalize nowP l st.i = t at HN ⊢
  clear h
  go_enter Tryz.func125, Tryz.ntmps125
  go_wp2_with fail
  refine HN.out.mono ?_
  rintro e w1 ⟨rfl, hb1⟩
  have H1 := HH.out.later hb1
  have HB1 := Lib.hid hb1
  obtain ⟨w2, hw2⟩ : ∃ w2, w1.alloc (.cells #[.int .i64 t.f0, .int .i64 t.f1, .string t.f2, .int .i32 t.f3] 77) = w2 := ⟨_, rfl⟩
  have hb2 : Below w1.heap.size w1 w2 := by rw [← hw2]; exact (Below.refl _ w1).alloc (Nat.le_refl _) _
  have k3 := (H1.later hb2).c3
  have ho2 : w2.heap[w1.heap.size]? = some (.cells #[.int .i64 t.f0, .int .i64 t.f1, .string t.f2, .int .i32 t.f3] 77 (0, 0)) := by rw [← hw2]; exact heap_alloc_new w1 _
  have b0 : w2.cell? ⟨w1.heap.size, 0, none⟩ = some (.int .i64 t.f0) := (blk_cell ho2 0).trans rfl
  have b2 : w2.cell? ⟨w1.heap.size, 2, none⟩ = some (.string t.f2) := (blk_cell ho2 2).trans rfl
  have HB2 := Lib.hid (hb1.trans (hb2.mono hb1.size))
  clear H1 hb1 hb2 HN HH ho2
  unfold tokV
  by_cases he : st.e = 0
  · by_cases hk : t.f0 = 6
    · have e1 : (st.e == 0) = true := by simp [he]
      have e2 : (t.f0 == 6) = true := by simp [hk]
      clear he hk
      go_wp2
      go_ret
      rw [e1, e2, toList_data]
      exact ⟨rfl, HB2.out⟩
    · have e1 : (st.e == 0) = true := by simp [he]
      have e2 : (t.f0 == 6) = false := beq_eq_false_iff_ne.2 hk
      clear he hk
      go_wp2
      go_ret
      rw [e1, e2]
      exact ⟨rfl, HB2.out⟩
  · have e1 : (st.e == 0) = false := beq_eq_false_iff_ne.2 he
    clear he
    go_wp2
    go_ret
    rw [e1]
    exact ⟨rfl, HB2.out⟩
def mayP (l : List Tok) (st : Rd) (ch : UInt8) : Rd := if isP l st ch then adv st else st
set_option maxRecDepth 100000 in
set_option maxHeartbeats 4000000 in
theorem may_calls (h : RdAt W0 W g A c l st) (ch : UInt8) : Calls Tryz.prog 89 #[.pointer (some ⟨g, 0, none⟩), .string ⟨#[ch]⟩] W fun e w' => e = .returned (.bool (isP l st ch)) ∧ RdAt W0 w' g A c l (mayP l st ch) ∧ W.grownBy w' (some g) := by
  have hu := Tryz.underlying105
  have hmx : l.length ≤ 9223372036854775807 := h.row.2.1
  have HI := Lib.hid (is_calls h ch)
  have HH := Lib.hid h
  unfold mayP
  by_cases hi : isP l st ch = true
  · have hin := isP_in hi
    rw [hi] at HI ⊢
    clear h hi
    go_enter Tryz.func89, Tryz.ntmps89
    go_wp2_with fail
    refine HI.out.mono ?_
    rintro e w1 ⟨rfl, hb1⟩
    have H1 := HH.out.later hb1
    have k1 := H1.c1
    have f1 := H1.fz 1
    have hw : IntKind.i64.wrap (st.i + 1) = st.i + 1 := IntWalk.i64_in _ (by omega)
    have HG := Lib.hid ((grown_of_below hb1 (some g)).trans (grown_set w1 g 1 (.int .i64 (st.i + 1))))
    have H2 := Lib.hid (H1.i (st.i + 1))
    clear H1 hb1 HI HH
    go_wp2
    go_ret
    exact ⟨rfl, H2.out, HG.out⟩
  · have hi' : isP l st ch = false := by simpa using hi
    rw [hi'] at HI ⊢
    clear h hi hi'
    go_enter Tryz.func89, Tryz.ntmps89
    go_wp2_with fail
    refine HI.out.mono ?_
    rintro e w1 ⟨rfl, hb1⟩
    have H2 := Lib.hid (And.intro (HH.out.later hb1) (grown_of_below hb1 (some g)))
    clear hb1 HI HH
    go_wp2
    go_ret
    exact ⟨rfl, H2.out⟩
set_option maxRecDepth 100000 in
set_option maxHeartbeats 4000000 in
theorem fails_calls (h : RdAt W0 W g A c l st) (n e0 : Int) : Calls Tryz.prog 157 #[.pointer (some ⟨g, 0, none⟩), .int .i64 n, .int .i64 e0] W fun e w' => (∃ v, e = .returned v) ∧ RdAt W0 w' g A c l (failsP st n e0) ∧ W.grownBy w' (some g) := by
  have hu := Tryz.underlying105
  have k3 := h.c3
  have k4 := h.c4
  have f3 := h.fz 3
  have f4 := h.fz 4
  have HH := Lib.hid h
  unfold failsP
  by_cases he : st.e = 0
  · have e1 : (st.e == 0) = true := by simp [he]
    have H2 := Lib.hid ((h.at1 n).e e0)
    have HG := Lib.hid ((grown_set W g 4 (.int .i64 n)).trans (grown_set _ g 3 (.int .i64 e0)))
    clear h he
    go_enter Tryz.func157, Tryz.ntmps157
    go_wp2
    go_end0
    try rw [e1]
    exact ⟨⟨_, rfl⟩, H2.out, HG.out⟩
  · have e1 : (st.e == 0) = false := beq_eq_false_iff_ne.2 he
    clear h he
    go_enter Tryz.func157, Tryz.ntmps157
    go_wp2
    go_end0
    try rw [e1]
    exact ⟨⟨_, rfl⟩, HH.out, World.grownBy.refl _ _⟩
set_option maxRecDepth 100000 in
set_option maxHeartbeats 4000000 in
theorem must_calls (h : RdAt W0 W g A c l st) (ch : UInt8) : Calls Tryz.prog 166 #[.pointer (some ⟨g, 0, none⟩), .string ⟨#[ch]⟩] W fun e w' => (∃ v, e = .returned v) ∧ RdAt W0 w' g A c l (mustP l st ch) ∧ W.grownBy w' (some g) := by
  have hu := Tryz.underlying105
  have HI := Lib.hid (may_calls h ch)
  unfold mayP at HI
  unfold mustP
  by_cases hi : isP l st ch = true
  · rw [hi] at HI ⊢
    clear h hi
    go_enter Tryz.func166, Tryz.ntmps166
    go_wp2_with fail
    refine HI.out.mono ?_
    rintro e w1 ⟨rfl, h1, g1⟩
    have H1 := Lib.hid (And.intro h1 g1)
    clear h1 g1 HI
    go_wp2
    go_end0
    exact ⟨⟨_, rfl⟩, H1.out⟩
  · have hi' : isP l st ch = false := by simpa using hi
    rw [hi'] at HI ⊢
    clear h hi hi'
    go_enter Tryz.func166, Tryz.ntmps166
    go_wp2_with fail
    refine HI.out.mono ?_
    rintro e w1 ⟨rfl, h1, g1⟩
    have h1' : RdAt W0 w1 g A c l st := h1
    have k1 := h1'.c1
    have HF := Lib.hid (fails_calls h1' st.i 70)
    have HG := Lib.hid g1
    clear h1 h1' g1 HI
    go_wp2_with fail
    refine HF.out.mono ?_
    rintro e w2 ⟨⟨v, rfl⟩, h2, g2⟩
    have H2 := Lib.hid (And.intro h2 (HG.out.trans g2))
    clear h2 g2 HF HG k1
    go_wp2
    go_end0
    exact ⟨⟨_, rfl⟩, H2.out⟩
set_option maxRecDepth 100000 in
set_option maxHeartbeats 4000000 in
theorem begins_calls (h : RdAt W0 W g A c l st) : Calls Tryz.prog 124 #[.pointer (some ⟨g, 0, none⟩)] W fun e w' => e = .returned (.bool (beginsP l st)) ∧ Below W.heap.size W w' := by
  have hu := Tryz.underlying105
  have hu2 := Tryz.underlying77
  have HN := Lib.hid (now_calls h)
  have HH := Lib.hid h
  unfold beginsP
  have HI := Lib.hid (fun W1 (hb : Below W.heap.size W W1) ch => is_calls (h.later hb) ch)
  generalize nowP l st.i = t at HN ⊢
  clear h
  go_enter Tryz.func124, Tryz.ntmps124
  go_wp2_with fail
  refine HN.out.mono ?_
  rintro e w1 ⟨rfl, hb1⟩
  obtain ⟨w2, hw2⟩ : ∃ w2, w1.alloc (.cells #[.int .i64 t.f0, .int .i64 t.f1, .string t.f2, .int .i32 t.f3] 77) = w2 := ⟨_, rfl⟩
  have hb2 : Below w1.heap.size w1 w2 := by rw [← hw2]; exact (Below.refl _ w1).alloc (Nat.le_refl _) _
  have ho2 : w2.heap[w1.heap.size]? = some (.cells #[.int .i64 t.f0, .int .i64 t.f1, .string t.f2, .int .i32 t.f3] 77 (0, 0)) := by rw [← hw2]; exact heap_alloc_new w1 _
  have b0 : w2.cell? ⟨w1.heap.size, 0, none⟩ = some (.int .i64 t.f0) := (blk_cell ho2 0).trans rfl
  have HB2 := Lib.hid (hb1.trans (hb2.mono hb1.size))
  have H46 := Lib.hid (HI.out w2 HB2.out 46)
  clear hb1 hb2 HN HH ho2
  unfold tokV
  by_cases h1 : t.f0 = 1
  · have e1 : (t.f0 == 1) = true := by simp [h1]
    clear h1 HI
    go_wp2
    go_ret
    rw [e1]
    exact ⟨rfl, HB2.out⟩
  have e1 : (t.f0 == 1) = false := beq_eq_false_iff_ne.2 h1
  by_cases h4 : t.f0 = 4
  · have e4 : (t.f0 == 4) = true := by simp [h4]
    clear h1 h4 HI
    go_wp2
    go_ret
    rw [e1, e4]
    exact ⟨rfl, HB2.out⟩
  have e4 : (t.f0 == 4) = false := beq_eq_false_iff_ne.2 h4
  by_cases h5 : t.f0 = 5
  · have e5 : (t.f0 == 5) = true := by simp [h5]
    clear h1 h4 h5 HI
    go_wp2
    go_ret
    rw [e1, e4, e5]
    exact ⟨rfl, HB2.out⟩
  have e5 : (t.f0 == 5) = false := beq_eq_false_iff_ne.2 h5
  clear h1 h4 h5
  have E := Lib.hid (And.intro e1 (And.intro e4 e5))
  by_cases p1 : isP l st 46 = true
  · rw [p1] at H46
    have P1 := Lib.hid p1
    clear p1 HI
    go_wp2_with fail
    refine H46.out.mono ?_
    rintro e w3 ⟨rfl, hb3⟩
    have HB3 := Lib.hid (HB2.out.trans (hb3.mono HB2.out.size))
    clear hb3 H46 HB2 b0
    go_wp2
    go_ret
    rw [E.out.1, E.out.2.1, E.out.2.2, P1.out]
    exact ⟨rfl, HB3.out⟩
  have p1' : isP l st 46 = false := by simpa using p1
  rw [p1'] at H46
  have P1 := Lib.hid p1'
  clear p1 p1'
  by_cases p2 : isP l st 40 = true
  · have P2 := Lib.hid p2
    go_wp2_with fail
    refine H46.out.mono ?_
    rintro e w3 ⟨rfl, hb3⟩
    have HB3 := Lib.hid (HB2.out.trans (hb3.mono HB2.out.size))
    have H40 := Lib.hid (HI.out w3 HB3.out 40)
    rw [p2] at H40
    clear hb3 H46 HB2 b0 HI p2
    go_wp2_with fail
    refine H40.out.mono ?_
    rintro e w4 ⟨rfl, hb4⟩
    have HB4 := Lib.hid (HB3.out.trans (hb4.mono HB3.out.size))
    clear hb4 H40 HB3
    go_wp2
    go_ret
    rw [E.out.1, E.out.2.1, E.out.2.2, P1.out, P2.out]
    exact ⟨rfl, HB4.out⟩
  have p2' : isP l st 40 = false := by simpa using p2
  have P2 := Lib.hid p2'
  go_wp2_with fail
  refine H46.out.mono ?_
  rintro e w3 ⟨rfl, hb3⟩
  have HB3 := Lib.hid (HB2.out.trans (hb3.mono HB2.out.size))
  have H40 := Lib.hid (HI.out w3 HB3.out 40)
  rw [p2'] at H40
  clear hb3 H46 HB2 b0 p2 p2'
  go_wp2_with fail
  refine H40.out.mono ?_
  rintro e w4 ⟨rfl, hb4⟩
  have HB4 := Lib.hid (HB3.out.trans (hb4.mono HB3.out.size))
  have H91 := Lib.hid (HI.out w4 HB4.out 91)
  obtain ⟨b, hb⟩ : ∃ b, isP l st 91 = b := ⟨_, rfl⟩
  rw [hb] at H91
  have P3 := Lib.hid hb
  clear hb4 H40 HB3 HI hb
  go_wp2_with fail
  refine H91.out.mono ?_
  rintro e w5 ⟨rfl, hb5⟩
  have HB5 := Lib.hid (HB4.out.trans (hb5.mono HB4.out.size))
  clear hb5 H91 HB4
  go_wp2
  go_ret
  rw [E.out.1, E.out.2.1, E.out.2.2, P1.out, P2.out, P3.out]
  exact ⟨by simp, HB5.out⟩
def againS (l : List Tok) (st : Rd) : Rd := if againP l st == 0 then st else adv st
set_option maxRecDepth 100000 in
set_option maxHeartbeats 4000000 in
theorem again_calls (h : RdAt W0 W g A c l st) : Calls Tryz.prog 145 #[.pointer (some ⟨g, 0, none⟩)] W fun e w' => e = .returned (.int .i64 (againP l st)) ∧ RdAt W0 w' g A c l (againS l st) ∧ W.grownBy w' (some g) := by
  have HI := Lib.hid (fun W1 (h : RdAt W0 W1 g A c l st) ch => may_calls h ch)
  have H42 := Lib.hid (may_calls h 42)
  unfold mayP at H42
  unfold againS againP
  clear h
  by_cases p1 : isP l st 42 = true
  · rw [p1] at H42 ⊢
    clear p1 HI
    go_enter Tryz.func145, Tryz.ntmps145
    go_wp2_with fail
    refine H42.out.mono ?_
    rintro e w1 ⟨rfl, h1, g1⟩
    have H1 := Lib.hid (And.intro h1 g1)
    clear h1 g1 H42
    go_wp2
    go_ret
    exact ⟨rfl, H1.out⟩
  have p1' : isP l st 42 = false := by simpa using p1
  rw [p1'] at H42 ⊢
  clear p1 p1'
  by_cases p2 : isP l st 43 = true
  · rw [p2]
    have P2 := Lib.hid p2
    clear p2
    go_enter Tryz.func145, Tryz.ntmps145
    go_wp2_with fail
    refine H42.out.mono ?_
    rintro e w1 ⟨rfl, h1, g1⟩
    have H43 := Lib.hid (HI.out w1 h1 43)
    unfold mayP at H43
    rw [P2.out] at H43
    have G1 := Lib.hid g1
    clear h1 g1 H42 HI
    go_wp2_with fail
    refine H43.out.mono ?_
    rintro e w2 ⟨rfl, h2, g2⟩
    have H2 := Lib.hid (And.intro h2 (G1.out.trans g2))
    clear h2 g2 H43 G1
    go_wp2
    go_ret
    exact ⟨rfl, H2.out⟩
  have p2' : isP l st 43 = false := by simpa using p2
  rw [p2']
  have P2 := Lib.hid p2'
  clear p2 p2'
  obtain ⟨b, hb⟩ : ∃ b, isP l st 63 = b := ⟨_, rfl⟩
  rw [hb]
  have P3 := Lib.hid hb
  clear hb
  go_enter Tryz.func145, Tryz.ntmps145
  go_wp2_with fail
  refine H42.out.mono ?_
  rintro e w1 ⟨rfl, h1, g1⟩
  have H43 := Lib.hid (HI.out w1 h1 43)
  unfold mayP at H43
  rw [P2.out] at H43
  have G1 := Lib.hid g1
  clear h1 g1 H42
  go_wp2_with fail
  refine H43.out.mono ?_
  rintro e w2 ⟨rfl, h2, g2⟩
  have H63 := Lib.hid (HI.out w2 h2 63)
  unfold mayP at H63
  rw [P3.out] at H63
  have G2 := Lib.hid (G1.out.trans g2)
  clear h2 g2 H43 G1 HI
  go_wp2_with fail
  refine H63.out.mono ?_
  rintro e w3 ⟨rfl, h3, g3⟩
  have H3 := Lib.hid (And.intro h3 (G2.out.trans g3))
  clear h3 g3 H63 G2
  cases b with
  | true =>
    go_wp2
    go_ret
    exact ⟨rfl, H3.out⟩
  | false =>
    go_wp2
    go_ret
    exact ⟨rfl, H3.out⟩
end
end Go.Proofs.YtfinjenkgpndlaaGreatDoor.PA

namespace Go.Proofs.YtfinjenkgpndlaaGreatDoor.PA
open Go.RowKit Go.Shelf Go.Proofs.YtfinjenkgpndlaaGreatDoorW.PrintWords Go.Proofs.YtfinjenkgpndlaaGreatDoorW.PrintLast Go.Proofs.YtfinjenkgpndlaaGreatDoorW.PrintMore
attribute [local go_sem] Oper.semAt_some
theorem loadVar_one (w : World) (t : TypeId) (a : Addr) (v : Value) (hc : w.cell? a = some v) (ha : (isAgg t).run Tryz.prog w = .ok false w) : (loadVar t a).run Tryz.prog w = .ok v w := by
  simp [loadVar, go_sem, ha, load, hc]
  first | (simp [Sem.run, hc]; done) | (unfold Sem.run; rw [hc]; rfl) | (unfold Sem.run; simp only [hc]; rfl)
theorem results_c3 {fn : Func} {p q r : Tmp} {t1 t2 t3 : TypeId} (h : fn.results = #[.cell p t1, .cell q t2, .cell r t3]) (tmps : Array Value) (w : World) (a1 a2 a3 : Addr) (v1 v2 v3 : Value)
    (hp : tmps.getD p undef = .pointer (some a1)) (hq : tmps.getD q undef = .pointer (some a2)) (hr : tmps.getD r undef = .pointer (some a3))
    (h1 : (loadVar t1 a1).run Tryz.prog w = .ok v1 w) (h2 : (loadVar t2 a2).run Tryz.prog w = .ok v2 w) (h3 : (loadVar t3 a3).run Tryz.prog w = .ok v3 w) :
    (results fn tmps).run Tryz.prog w = .ok (.tuple #[v1, v2, v3]) w := by
  have hp' : tmps[p]?.getD undef = .pointer (some a1) := by simpa using hp
  have hq' : tmps[q]?.getD undef = .pointer (some a2) := by simpa using hq
  have hr' : tmps[r]?.getD undef = .pointer (some a3) := by simpa using hr
  simp [results, h, hp', hq', hr', asAddr, h1, h2, h3]
end Go.Proofs.YtfinjenkgpndlaaGreatDoor.PA

namespace Go.Proofs.YtfinjenkgpndlaaGreatDoor.PA
open Go.RowKit Go.Shelf Go.Proofs.YtfinjenkgpndlaaGreatDoorW.PrintWords Go.Proofs.YtfinjenkgpndlaaGreatDoorW.PrintLast Go.Proofs.YtfinjenkgpndlaaGreatDoorW.PrintMore
set_option linter.unusedVariables false

def regex_name.f (s : ByteArray) : Option Bool := none
theorem regex_name.calls (s : ByteArray) (r : Bool) (w : World) (h : regex_name.f s = some r) : Calls Tryz.prog 71 #[.string s] w fun e w' => e = .returned (.bool r) ∧ Below w.heap.size w w' := by cases h
end Go.Proofs.YtfinjenkgpndlaaGreatDoor.PA

namespace Go.Proofs.YtfinjenkgpndlaaGreatDoor.PA
open Go.RowKit Go.Proofs.YtfinjenkgpndlaaGreatDoorW.PrintWords Go.Proofs.YtfinjenkgpndlaaGreatDoorW.PrintLast Go.Proofs.YtfinjenkgpndlaaGreatDoorW.PrintMore
attribute [local go_sem] max2_int min2_int max_two min_two max_three min_three max_four min_four   -- for this text's walks alone
set_option linter.unusedVariables false
set_option linter.unusedSimpArgs false

def regex_plain.j0 : Nat → Bool → Int → Int → List (S58) → ByteArray → List (S26) → Option (Bool)
 | 0, _, _, _, _, _, _ => none
 | k + 1, x19, x185000, x185001, x185002, x185003, x185004 => if x19 = true then (some false) else (if x185000 = 1 then (if (x185002.length : Int) > 200 then (some false) else ((uniset_Is.f k x185002).bind fun t186 => (if t186 = true then (if x185000 = 2 then ((regex_name.f x185003).bind fun t187 => (if t187 = true then (some true) else (some false))) else (some (x185003.toList == ([] : List UInt8)))) else (some false)))) else (if (x185002.length : Int) > 0 then (some false) else (if x185000 = 2 then ((regex_name.f x185003).bind fun t188 => (if t188 = true then (some true) else (some false))) else (some (x185003.toList == ([] : List UInt8))))))
def regex_plain.f (k : Nat) (a0_0 : Int) (a0_1 : Int) (l0_2 : List (S58)) (a0_3 : ByteArray) (l0_4 : List (S26)) : Option (Bool) := if a0_0 < 1 then (regex_plain.j0 k true a0_0 a0_1 l0_2 a0_3 l0_4) else (if a0_0 > 8 then (regex_plain.j0 k true a0_0 a0_1 l0_2 a0_3 l0_4) else ((regex_kids.f k a0_0).bind fun t185 => (regex_plain.j0 k ((l0_4.length : Int) != t185) a0_0 a0_1 l0_2 a0_3 l0_4)))
theorem regex_plain.mono_l : ∀ k, (∀ y0 y1 y2 y3 y4 y5, LeO (regex_plain.j0 k y0 y1 y2 y3 y4 y5) (regex_plain.j0 (k + 1) y0 y1 y2 y3 y4 y5))
 | 0 => fun _ _ _ _ _ _ r h => by simp [regex_plain.j0] at h
 | k + 1 => by
  have ih0 := regex_plain.mono_l k
  ·intro y0 y1 y2 y3 y4 y5
   unfold regex_plain.j0
   repeat' first
   | (with_reducible exact ih0 _ _ _ _ _ _)
   | (with_reducible exact regex_kids.mono _ _)
   | (with_reducible exact uniset_Is.mono _ _)
   | (with_reducible exact LeO.refl _)
   | (with_reducible exact LeO.none _)
   | (with_reducible refine LeO.ite ?_ ?_)
   | (with_reducible refine LeO.bind ?_ (fun _ => ?_))
   | exact ih0 _ _ _ _ _ _
   | exact regex_kids.mono _ _
   | exact uniset_Is.mono _ _
   | exact LeO.none _
   | refine LeO.ite ?_ ?_
   | refine LeO.bind ?_ (fun _ => ?_)
theorem regex_plain.mono : ∀ a0 a1 a2 a3 a4 k, LeO (regex_plain.f k a0 a1 a2 a3 a4) (regex_plain.f (k + 1) a0 a1 a2 a3 a4) := by
 intro a0 a1 a2 a3 a4 k
 have ih0 := regex_plain.mono_l k
 unfold regex_plain.f
 repeat' first
   | (with_reducible exact ih0 _ _ _ _ _ _)
   | (with_reducible exact regex_kids.mono _ _)
   | (with_reducible exact uniset_Is.mono _ _)
   | (with_reducible exact LeO.refl _)
   | (with_reducible exact LeO.none _)
   | (with_reducible refine LeO.ite ?_ ?_)
   | (with_reducible refine LeO.bind ?_ (fun _ => ?_))
   | exact ih0 _ _ _ _ _ _
   | exact regex_kids.mono _ _
   | exact uniset_Is.mono _ _
   | exact LeO.none _
   | refine LeO.ite ?_ ?_
   | refine LeO.bind ?_ (fun _ => ?_)
set_option maxHeartbeats 8000000 in
set_option maxRecDepth 100000 in
theorem regex_plain.calls (k : Nat) (a0_0 : Int) (a0_1 : Int) (A0_2 : Option Addr) (c0_2 : Nat) (l0_2 : List (S58)) (a0_3 : ByteArray) (A0_4 : Option Addr) (c0_4 : Nat) (l0_4 : List (S26)) (r : Bool) (w : World) (hr0_2 : Kd.C k58 w A0_2 l0_2.length l0_2) (hc0_2 : l0_2.length ≤ c0_2) (hr0_4 : Kd.C k26 w A0_4 l0_4.length l0_4) (hc0_4 : l0_4.length ≤ c0_4) (h : regex_plain.f k a0_0 a0_1 l0_2 a0_3 l0_4 = some r) :
  Calls Tryz.prog 47 #[.agg #[.int .i64 a0_0, .int .i64 a0_1, .slice A0_2 l0_2.length c0_2, .string a0_3, .slice A0_4 l0_4.length c0_4]] w fun e w' => e = .returned (.bool r) ∧ Below w.heap.size w w' := by
 have hu26 := Tryz.underlying26
 have HR0_2 := Aside0.mk hr0_2
 have HC0_2 := Aside0.mk hc0_2
 clear hr0_2 hc0_2
 have HR0_4 := Aside0.mk hr0_4
 have HC0_4 := Aside0.mk hc0_4
 clear hr0_4 hc0_4
 have HB := Aside0.mk (Below.refl w.heap.size w)
 have H : (if a0_0 < 1 then (regex_plain.j0 k true a0_0 a0_1 l0_2 a0_3 l0_4) else (if a0_0 > 8 then (regex_plain.j0 k true a0_0 a0_1 l0_2 a0_3 l0_4) else ((regex_kids.f k a0_0).bind fun t185 => (regex_plain.j0 k ((l0_4.length : Int) != t185) a0_0 a0_1 l0_2 a0_3 l0_4)))) = some r := h
 clear h
 have HC2 := Aside0.mk H
 clear H
 go_enter Tryz.func47, Tryz.ntmps47
 go_upto_region 1 with (first | ((with_reducible refine gate_dst (N := 1) rfl ?_); (try (refine gate_guard (by rfl) ?_; dsimp only)); refine box_event ?hg (N := 1) ?hd (cs := #[.int .i64 a0_0, .int .i64 a0_1, .slice A0_2 l0_2.length c0_2, .string a0_3, .slice A0_4 l0_4.length c0_4]) (t := 26) ?hr ?_; (case hd => rfl); (case hg => rfl); (case hr => first | (go_simp; done) | (go_simp; rfl)); intro gb184 hg w3 hbox hb; have n0_ := Aside0.mk (below_step (by repeat (first | (with_reducible first | exact HB.out | apply below_alloc | apply pw_below_drewN | apply below_drew1) | exact HB.out)) hb); have n1_ := Aside0.mk (hbox); have n2_ := Aside0.mk ((by rw [hg]; exact (below_size (by repeat (first | (with_reducible first | exact HB.out | apply below_alloc | apply pw_below_drewN | apply below_drew1) | exact HB.out))) : w.heap.size ≤ gb184)); have n3_ := Aside0.mk ((by rw [hg]; exact (below_size (by repeat (first | (with_reducible first | exact HB.out | apply below_alloc | apply pw_below_drewN | apply below_drew1) | exact HB.out))) : w.heap.size ≤ gb184)); clear HB; have HB := n0_; have BK184 := n1_; have GW184 := n2_; have GE184 := n3_; clear n0_ n1_ n2_ n3_; clear hb hbox hg))
 repeat (go_quiet (first | ((with_reducible refine gate_dst (N := 1) rfl ?_); (try (refine gate_guard (by rfl) ?_; dsimp only)); refine box_event ?hg (N := 1) ?hd (cs := #[.int .i64 a0_0, .int .i64 a0_1, .slice A0_2 l0_2.length c0_2, .string a0_3, .slice A0_4 l0_4.length c0_4]) (t := 26) ?hr ?_; (case hd => rfl); (case hg => rfl); (case hr => first | (go_simp; done) | (go_simp; rfl)); intro gb184 hg w3 hbox hb; have n0_ := Aside0.mk (below_step (by repeat (first | (with_reducible first | exact HB.out | apply below_alloc | apply pw_below_drewN | apply below_drew1) | exact HB.out)) hb); have n1_ := Aside0.mk (hbox); have n2_ := Aside0.mk ((by rw [hg]; exact (below_size (by repeat (first | (with_reducible first | exact HB.out | apply below_alloc | apply pw_below_drewN | apply below_drew1) | exact HB.out))) : w.heap.size ≤ gb184)); have n3_ := Aside0.mk ((by rw [hg]; exact (below_size (by repeat (first | (with_reducible first | exact HB.out | apply below_alloc | apply pw_below_drewN | apply below_drew1) | exact HB.out))) : w.heap.size ≤ gb184)); clear HB; have HB := n0_; have BK184 := n1_; have GW184 := n2_; have GE184 := n3_; clear n0_ n1_ n2_ n3_; clear hb hbox hg)); go_upto_region 1 with (first | ((with_reducible refine gate_dst (N := 1) rfl ?_); (try (refine gate_guard (by rfl) ?_; dsimp only)); refine box_event ?hg (N := 1) ?hd (cs := #[.int .i64 a0_0, .int .i64 a0_1, .slice A0_2 l0_2.length c0_2, .string a0_3, .slice A0_4 l0_4.length c0_4]) (t := 26) ?hr ?_; (case hd => rfl); (case hg => rfl); (case hr => first | (go_simp; done) | (go_simp; rfl)); intro gb184 hg w3 hbox hb; have n0_ := Aside0.mk (below_step (by repeat (first | (with_reducible first | exact HB.out | apply below_alloc | apply pw_below_drewN | apply below_drew1) | exact HB.out)) hb); have n1_ := Aside0.mk (hbox); have n2_ := Aside0.mk ((by rw [hg]; exact (below_size (by repeat (first | (with_reducible first | exact HB.out | apply below_alloc | apply pw_below_drewN | apply below_drew1) | exact HB.out))) : w.heap.size ≤ gb184)); have n3_ := Aside0.mk ((by rw [hg]; exact (below_size (by repeat (first | (with_reducible first | exact HB.out | apply below_alloc | apply pw_below_drewN | apply below_drew1) | exact HB.out))) : w.heap.size ≤ gb184)); clear HB; have HB := n0_; have BK184 := n1_; have GW184 := n2_; have GE184 := n3_; clear n0_ n1_ n2_ n3_; clear hb hbox hg)))
 (try simp only [Act.put, List.setIfInBounds_toArray, List.set_cons_zero, List.set_cons_succ])
 go_cut [19] (fun v19 wc => ∃ (kq : Nat) (x19_1 : Bool), v19 = .bool x19_1 ∧ Aside0 (regex_plain.j0 kq x19_1 a0_0 a0_1 l0_2 a0_3 l0_4 = some r) ∧ Aside0 (kq ≤ k) ∧ Aside0 (wc.heap[gb184]? = some (.cells #[.int .i64 a0_0, .int .i64 a0_1, (.slice A0_2 l0_2.length c0_2), .string a0_3, (.slice A0_4 l0_4.length c0_4)] 26 (0, 0))) ∧ Aside0 (Below w.heap.size w wc))
 case first =>
  have H := HC2.out
  clear HC2
  by_cases c4 : a0_0 < 1
  ·rw [if_pos c4] at H
   have c4b0 : decide (a0_0 < 1) = true := decide_eq_true c4
   clear c4
   (first | rw [c4b0] | (simp only [i64_w, i32_w]; rw [c4b0]) | skip)
   have H' := Aside0.mk H
   clear H
   have hcz5_0 : w3.cell? ⟨gb184, 0, none⟩ = some (.int .i64 a0_0) := (blk_cell BK184.out 0).trans rfl
   have hcz5_1 : w3.cell? ⟨gb184, 1, none⟩ = some (.int .i64 a0_1) := (blk_cell BK184.out 1).trans rfl
   have hcz5_2 : w3.cell? ⟨gb184, 2, none⟩ = some (.slice A0_2 l0_2.length c0_2) := (blk_cell BK184.out 2).trans rfl
   have hcz5_3 : w3.cell? ⟨gb184, 3, none⟩ = some (.string a0_3) := (blk_cell BK184.out 3).trans rfl
   have hcz5_4 : w3.cell? ⟨gb184, 4, none⟩ = some (.slice A0_4 l0_4.length c0_4) := (blk_cell BK184.out 4).trans rfl
   have hfz5_0 := blk_frozen BK184.out 0
   have hfz5_1 := blk_frozen BK184.out 1
   have hfz5_2 := blk_frozen BK184.out 2
   have hfz5_3 := blk_frozen BK184.out 3
   have hfz5_4 := blk_frozen BK184.out 4
   go_wp2
   repeat (go_quiet (fail); try go_wp2)
   go_meet
   case rel => exact ⟨_, (true), (by first | rfl | (simp; done) | (simp [*]; done)), H', ⟨by first | omega | exact Nat.le_refl _⟩, ⟨by (with_reducible repeat (first | refine blk_drewN ?_ _ | refine blk_drew ?_ | refine blk_alloc ?_ _)); exact BK184.out⟩, ⟨by repeat (first | (with_reducible first | exact HB.out | apply below_alloc | apply pw_below_drewN | apply below_drew1 | refine below_set ?_ GE184.out) | exact HB.out)⟩⟩
  ·rw [if_neg c4] at H
   have c4b0 : decide (a0_0 < 1) = false := decide_eq_false c4
   clear c4
   (first | rw [c4b0] | (simp only [i64_w, i32_w]; rw [c4b0]) | skip)
   by_cases c6 : a0_0 > 8
   ·rw [if_pos c6] at H
    have c6b0 : decide (8 < a0_0) = true := decide_eq_true c6
    clear c6
    have H' := Aside0.mk H
    clear H
    have hcz7_0 : w3.cell? ⟨gb184, 0, none⟩ = some (.int .i64 a0_0) := (blk_cell BK184.out 0).trans rfl
    have hcz7_1 : w3.cell? ⟨gb184, 1, none⟩ = some (.int .i64 a0_1) := (blk_cell BK184.out 1).trans rfl
    have hcz7_2 : w3.cell? ⟨gb184, 2, none⟩ = some (.slice A0_2 l0_2.length c0_2) := (blk_cell BK184.out 2).trans rfl
    have hcz7_3 : w3.cell? ⟨gb184, 3, none⟩ = some (.string a0_3) := (blk_cell BK184.out 3).trans rfl
    have hcz7_4 : w3.cell? ⟨gb184, 4, none⟩ = some (.slice A0_4 l0_4.length c0_4) := (blk_cell BK184.out 4).trans rfl
    have hfz7_0 := blk_frozen BK184.out 0
    have hfz7_1 := blk_frozen BK184.out 1
    have hfz7_2 := blk_frozen BK184.out 2
    have hfz7_3 := blk_frozen BK184.out 3
    have hfz7_4 := blk_frozen BK184.out 4
    go_wp2
    repeat (go_quiet (fail); try go_wp2)
    go_meet
    case rel => exact ⟨_, (true), (by first | rfl | (simp; done) | (simp [*]; done)), H', ⟨by first | omega | exact Nat.le_refl _⟩, ⟨by (with_reducible repeat (first | refine blk_drewN ?_ _ | refine blk_drew ?_ | refine blk_alloc ?_ _)); exact BK184.out⟩, ⟨by repeat (first | (with_reducible first | exact HB.out | apply below_alloc | apply pw_below_drewN | apply below_drew1 | refine below_set ?_ GE184.out) | exact HB.out)⟩⟩
   ·rw [if_neg c6] at H
    have c6b0 : decide (8 < a0_0) = false := decide_eq_false c6
    clear c6
    replace H := Option.bind_eq_some_iff.mp H
    obtain ⟨t185, A80, H⟩ := H
    replace H : (regex_plain.j0 k ((l0_4.length : Int) != t185) a0_0 a0_1 l0_2 a0_3 l0_4) = some r := H
    have A8 := Aside0.mk A80
    clear A80
    have H' := Aside0.mk H
    clear H
    have hcz9_0 : w3.cell? ⟨gb184, 0, none⟩ = some (.int .i64 a0_0) := (blk_cell BK184.out 0).trans rfl
    have hcz9_1 : w3.cell? ⟨gb184, 1, none⟩ = some (.int .i64 a0_1) := (blk_cell BK184.out 1).trans rfl
    have hcz9_2 : w3.cell? ⟨gb184, 2, none⟩ = some (.slice A0_2 l0_2.length c0_2) := (blk_cell BK184.out 2).trans rfl
    have hcz9_3 : w3.cell? ⟨gb184, 3, none⟩ = some (.string a0_3) := (blk_cell BK184.out 3).trans rfl
    have hcz9_4 : w3.cell? ⟨gb184, 4, none⟩ = some (.slice A0_4 l0_4.length c0_4) := (blk_cell BK184.out 4).trans rfl
    have hfz9_0 := blk_frozen BK184.out 0
    have hfz9_1 := blk_frozen BK184.out 1
    have hfz9_2 := blk_frozen BK184.out 2
    have hfz9_3 := blk_frozen BK184.out 3
    have hfz9_4 := blk_frozen BK184.out 4
    go_wp2_with (first | (go_at_call 69; (with_reducible refine (regex_kids.calls k a0_0 t185 _ A8.out).mono ?_); rintro e w' ⟨rfl, ⟨nd, rfl⟩⟩; (try first | exact ⟨rfl, _, World.drewN_drewN _ _ _⟩ | exact ⟨rfl, _, Eq.trans (World.drewN_drewN _ _ _) (congrArg (World.drewN _) (Nat.add_assoc _ _ _))⟩)))
    repeat (go_quiet (first | (go_at_call 69; (with_reducible refine (regex_kids.calls k a0_0 t185 _ A8.out).mono ?_); rintro e w' ⟨rfl, ⟨nd, rfl⟩⟩; (try first | exact ⟨rfl, _, World.drewN_drewN _ _ _⟩ | exact ⟨rfl, _, Eq.trans (World.drewN_drewN _ _ _) (congrArg (World.drewN _) (Nat.add_assoc _ _ _))⟩))); try go_wp2_with (first | (go_at_call 69; (with_reducible refine (regex_kids.calls k a0_0 t185 _ A8.out).mono ?_); rintro e w' ⟨rfl, ⟨nd, rfl⟩⟩; (try first | exact ⟨rfl, _, World.drewN_drewN _ _ _⟩ | exact ⟨rfl, _, Eq.trans (World.drewN_drewN _ _ _) (congrArg (World.drewN _) (Nat.add_assoc _ _ _))⟩))))
    go_meet
    case rel => exact ⟨_, (((l0_4.length : Int) != t185)), (by first | rfl | (simp; done) | (simp [*]; done)), H', ⟨by first | omega | exact Nat.le_refl _⟩, ⟨by (with_reducible repeat (first | refine blk_drewN ?_ _ | refine blk_drew ?_ | refine blk_alloc ?_ _)); exact BK184.out⟩, ⟨by repeat (first | (with_reducible first | exact HB.out | apply below_alloc | apply pw_below_drewN | apply below_drew1 | refine below_set ?_ GE184.out) | exact HB.out)⟩⟩
 case rest =>
  clear HC2
  try clear p2
  try clear c4
  try clear c4b0
  try clear c6
  try clear c6b0
  try clear hcz5_0
  try clear hcz5_1
  try clear hcz5_2
  try clear hcz5_3
  try clear hcz5_4
  try clear hcz7_0
  try clear hcz7_1
  try clear hcz7_2
  try clear hcz7_3
  try clear hcz7_4
  try clear hcz9_0
  try clear hcz9_1
  try clear hcz9_2
  try clear hcz9_3
  try clear hcz9_4
  try clear hfz5_0
  try clear hfz5_1
  try clear hfz5_2
  try clear hfz5_3
  try clear hfz5_4
  try clear hfz7_0
  try clear hfz7_1
  try clear hfz7_2
  try clear hfz7_3
  try clear hfz7_4
  try clear hfz9_0
  try clear hfz9_1
  try clear hfz9_2
  try clear hfz9_3
  try clear hfz9_4
  obtain ⟨kq, x19_1, rfl, HA, HJ1, BK184, HB⟩ := hcut
  cases kq with
  | zero => exact absurd HA.out (by simp [regex_plain.j0])
  | succ kj1 =>
   have H := HA.out
   clear HA
   simp only [regex_plain.j0] at H
   by_cases c10 : x19_1 = true
   ·subst c10
    have H1 : (some false) = some r := by rw [if_pos rfl] at H; exact H
    clear H
    have H := H1
    clear H1
    obtain rfl := Option.some.inj H
    go_wp2
    repeat (go_quiet (fail); try go_wp2)
    go_ret
    exact ⟨by first | rfl | (simp [errW_none, errW_some] <;> rfl) | (simp [*, errW_none, errW_some] <;> rfl), by repeat (first | (with_reducible first | exact HB.out | apply below_alloc | apply pw_below_drewN | apply below_drew1 | refine below_set ?_ GE184.out) | exact HB.out)⟩
   ·replace c10 := Bool.eq_false_iff.mpr c10
    subst c10
    have H1 : (if a0_0 = 1 then (if (l0_2.length : Int) > 200 then (some false) else ((uniset_Is.f kj1 l0_2).bind fun t186 => (if t186 = true then (if a0_0 = 2 then ((regex_name.f a0_3).bind fun t187 => (if t187 = true then (some true) else (some false))) else (some (a0_3.toList == ([] : List UInt8)))) else (some false)))) else (if (l0_2.length : Int) > 0 then (some false) else (if a0_0 = 2 then ((regex_name.f a0_3).bind fun t188 => (if t188 = true then (some true) else (some false))) else (some (a0_3.toList == ([] : List UInt8)))))) = some r := by rw [if_neg (show ¬ (false = true) by decide)] at H; exact H
    clear H
    have H := H1
    clear H1
    by_cases c11 : a0_0 = 1
    ·rw [if_pos c11] at H
     have c11b0 : (a0_0 == 1) = true := beq_iff_eq.mpr c11
     have c11b1 : (a0_0 != 1) = false := bne_eq_false_iff_eq.mpr c11
     clear c11
     by_cases c12 : (l0_2.length : Int) > 200
     ·rw [if_pos c12] at H
      have c12b0 : decide (200 < (l0_2.length : Int)) = true := decide_eq_true c12
      have c12b1 : decide (200 < l0_2.length) = true := decide_eq_true (by omega)
      clear c12
      obtain rfl := Option.some.inj H
      have hcz13_0 : wc.cell? ⟨gb184, 0, none⟩ = some (.int .i64 a0_0) := (blk_cell BK184.out 0).trans rfl
      have hcz13_1 : wc.cell? ⟨gb184, 1, none⟩ = some (.int .i64 a0_1) := (blk_cell BK184.out 1).trans rfl
      have hcz13_2 : wc.cell? ⟨gb184, 2, none⟩ = some (.slice A0_2 l0_2.length c0_2) := (blk_cell BK184.out 2).trans rfl
      have hcz13_3 : wc.cell? ⟨gb184, 3, none⟩ = some (.string a0_3) := (blk_cell BK184.out 3).trans rfl
      have hcz13_4 : wc.cell? ⟨gb184, 4, none⟩ = some (.slice A0_4 l0_4.length c0_4) := (blk_cell BK184.out 4).trans rfl
      have hfz13_0 := blk_frozen BK184.out 0
      have hfz13_1 := blk_frozen BK184.out 1
      have hfz13_2 := blk_frozen BK184.out 2
      have hfz13_3 := blk_frozen BK184.out 3
      have hfz13_4 := blk_frozen BK184.out 4
      go_wp2
      repeat (go_quiet (fail); try go_wp2)
      go_ret
      exact ⟨by first | rfl | (simp [errW_none, errW_some] <;> rfl) | (simp [*, errW_none, errW_some] <;> rfl), by repeat (first | (with_reducible first | exact HB.out | apply below_alloc | apply pw_below_drewN | apply below_drew1 | refine below_set ?_ GE184.out) | exact HB.out)⟩
     ·rw [if_neg c12] at H
      have c12b0 : decide (200 < (l0_2.length : Int)) = false := decide_eq_false c12
      have c12b1 : decide (200 < l0_2.length) = false := decide_eq_false (by omega)
      clear c12
      replace H := Option.bind_eq_some_iff.mp H
      obtain ⟨t186, A140, H⟩ := H
      replace H : (if t186 = true then (if a0_0 = 2 then ((regex_name.f a0_3).bind fun t187 => (if t187 = true then (some true) else (some false))) else (some (a0_3.toList == ([] : List UInt8)))) else (some false)) = some r := H
      have A14 := Aside0.mk A140
      clear A140
      by_cases c15 : t186 = true
      ·subst c15
       have H1 : (if a0_0 = 2 then ((regex_name.f a0_3).bind fun t187 => (if t187 = true then (some true) else (some false))) else (some (a0_3.toList == ([] : List UInt8)))) = some r := by rw [if_pos rfl] at H; exact H
       clear H
       have H := H1
       clear H1
       by_cases c16 : a0_0 = 2
       ·rw [if_pos c16] at H
        have c16b0 : (a0_0 == 2) = true := beq_iff_eq.mpr c16
        have c16b1 : (a0_0 != 2) = false := bne_eq_false_iff_eq.mpr c16
        clear c16
        replace H := Option.bind_eq_some_iff.mp H
        obtain ⟨t187, A170, H⟩ := H
        replace H : (if t187 = true then (some true) else (some false)) = some r := H
        have A17 := Aside0.mk A170
        clear A170
        by_cases c18 : t187 = true
        ·subst c18
         have H1 : (some true) = some r := by rw [if_pos rfl] at H; exact H
         clear H
         have H := H1
         clear H1
         obtain rfl := Option.some.inj H
         have hcz19_0 : wc.cell? ⟨gb184, 0, none⟩ = some (.int .i64 a0_0) := (blk_cell BK184.out 0).trans rfl
         have hcz19_1 : wc.cell? ⟨gb184, 1, none⟩ = some (.int .i64 a0_1) := (blk_cell BK184.out 1).trans rfl
         have hcz19_2 : wc.cell? ⟨gb184, 2, none⟩ = some (.slice A0_2 l0_2.length c0_2) := (blk_cell BK184.out 2).trans rfl
         have hcz19_3 : wc.cell? ⟨gb184, 3, none⟩ = some (.string a0_3) := (blk_cell BK184.out 3).trans rfl
         have hcz19_4 : wc.cell? ⟨gb184, 4, none⟩ = some (.slice A0_4 l0_4.length c0_4) := (blk_cell BK184.out 4).trans rfl
         have hfz19_0 := blk_frozen BK184.out 0
         have hfz19_1 := blk_frozen BK184.out 1
         have hfz19_2 := blk_frozen BK184.out 2
         have hfz19_3 := blk_frozen BK184.out 3
         have hfz19_4 := blk_frozen BK184.out 4
         go_wp2_with (first | (go_at_call 70; (with_reducible refine (uniset_Is.calls kj1 _ _ l0_2 true _ ?side1 ?side2 A14.out).mono ?_); (case side1 => repeat (first | exact (Kd.C_below HR0_2.out HB.out) | (with_reducible refine Kd.C_alloc ?_ _) | (with_reducible refine Kd.C_drewN ?_ _) | (with_reducible refine Kd.C_drew ?_))); (case side2 => exact HC0_2.out); rintro e w20 ⟨rfl, hb⟩; have n0_ := Aside0.mk (blk_below (g := gb184) (o := .cells #[.int .i64 a0_0, .int .i64 a0_1, .slice A0_2 l0_2.length c0_2, .string a0_3, .slice A0_4 l0_4.length c0_4] 26 (0, 0)) (by (with_reducible repeat (first | refine blk_drewN ?_ _ | refine blk_drew ?_ | refine blk_alloc ?_ _)); exact BK184.out) hb); have n1_ := Aside0.mk (below_step (by repeat (first | (with_reducible first | exact HB.out | apply below_alloc | apply pw_below_drewN | apply below_drew1 | refine below_set ?_ GE184.out) | exact HB.out)) hb); clear BK184; clear HB; have BK184 := n0_; have HB := n1_; clear n0_ n1_; (try clear hb); (try clear hb2); (try clear hk); (try clear hi); have hcz21_0 : w20.cell? ⟨gb184, 0, none⟩ = some (.int .i64 a0_0) := (blk_cell BK184.out 0).trans rfl; have hcz21_1 : w20.cell? ⟨gb184, 1, none⟩ = some (.int .i64 a0_1) := (blk_cell BK184.out 1).trans rfl; have hcz21_2 : w20.cell? ⟨gb184, 2, none⟩ = some (.slice A0_2 l0_2.length c0_2) := (blk_cell BK184.out 2).trans rfl; have hcz21_3 : w20.cell? ⟨gb184, 3, none⟩ = some (.string a0_3) := (blk_cell BK184.out 3).trans rfl; have hcz21_4 : w20.cell? ⟨gb184, 4, none⟩ = some (.slice A0_4 l0_4.length c0_4) := (blk_cell BK184.out 4).trans rfl; have hfz21_0 := blk_frozen BK184.out 0; have hfz21_1 := blk_frozen BK184.out 1; have hfz21_2 := blk_frozen BK184.out 2; have hfz21_3 := blk_frozen BK184.out 3; have hfz21_4 := blk_frozen BK184.out 4) | (go_at_call 71; (with_reducible refine (regex_name.calls a0_3 true _ A17.out).mono ?_); rintro e w22 ⟨rfl, hb⟩; have n0_ := Aside0.mk (blk_below (g := gb184) (o := .cells #[.int .i64 a0_0, .int .i64 a0_1, .slice A0_2 l0_2.length c0_2, .string a0_3, .slice A0_4 l0_4.length c0_4] 26 (0, 0)) (by (with_reducible repeat (first | refine blk_drewN ?_ _ | refine blk_drew ?_ | refine blk_alloc ?_ _)); exact BK184.out) hb); have n1_ := Aside0.mk (below_step (by repeat (first | (with_reducible first | exact HB.out | apply below_alloc | apply pw_below_drewN | apply below_drew1 | refine below_set ?_ GE184.out) | exact HB.out)) hb); clear BK184; clear HB; have BK184 := n0_; have HB := n1_; clear n0_ n1_; (try clear hb); (try clear hb2); (try clear hk); (try clear hi)))
         repeat (go_quiet (first | (go_at_call 70; (with_reducible refine (uniset_Is.calls kj1 _ _ l0_2 true _ ?side1 ?side2 A14.out).mono ?_); (case side1 => repeat (first | exact (Kd.C_below HR0_2.out HB.out) | (with_reducible refine Kd.C_alloc ?_ _) | (with_reducible refine Kd.C_drewN ?_ _) | (with_reducible refine Kd.C_drew ?_))); (case side2 => exact HC0_2.out); rintro e w20 ⟨rfl, hb⟩; have n0_ := Aside0.mk (blk_below (g := gb184) (o := .cells #[.int .i64 a0_0, .int .i64 a0_1, .slice A0_2 l0_2.length c0_2, .string a0_3, .slice A0_4 l0_4.length c0_4] 26 (0, 0)) (by (with_reducible repeat (first | refine blk_drewN ?_ _ | refine blk_drew ?_ | refine blk_alloc ?_ _)); exact BK184.out) hb); have n1_ := Aside0.mk (below_step (by repeat (first | (with_reducible first | exact HB.out | apply below_alloc | apply pw_below_drewN | apply below_drew1 | refine below_set ?_ GE184.out) | exact HB.out)) hb); clear BK184; clear HB; have BK184 := n0_; have HB := n1_; clear n0_ n1_; (try clear hb); (try clear hb2); (try clear hk); (try clear hi); have hcz21_0 : w20.cell? ⟨gb184, 0, none⟩ = some (.int .i64 a0_0) := (blk_cell BK184.out 0).trans rfl; have hcz21_1 : w20.cell? ⟨gb184, 1, none⟩ = some (.int .i64 a0_1) := (blk_cell BK184.out 1).trans rfl; have hcz21_2 : w20.cell? ⟨gb184, 2, none⟩ = some (.slice A0_2 l0_2.length c0_2) := (blk_cell BK184.out 2).trans rfl; have hcz21_3 : w20.cell? ⟨gb184, 3, none⟩ = some (.string a0_3) := (blk_cell BK184.out 3).trans rfl; have hcz21_4 : w20.cell? ⟨gb184, 4, none⟩ = some (.slice A0_4 l0_4.length c0_4) := (blk_cell BK184.out 4).trans rfl; have hfz21_0 := blk_frozen BK184.out 0; have hfz21_1 := blk_frozen BK184.out 1; have hfz21_2 := blk_frozen BK184.out 2; have hfz21_3 := blk_frozen BK184.out 3; have hfz21_4 := blk_frozen BK184.out 4) | (go_at_call 71; (with_reducible refine (regex_name.calls a0_3 true _ A17.out).mono ?_); rintro e w22 ⟨rfl, hb⟩; have n0_ := Aside0.mk (blk_below (g := gb184) (o := .cells #[.int .i64 a0_0, .int .i64 a0_1, .slice A0_2 l0_2.length c0_2, .string a0_3, .slice A0_4 l0_4.length c0_4] 26 (0, 0)) (by (with_reducible repeat (first | refine blk_drewN ?_ _ | refine blk_drew ?_ | refine blk_alloc ?_ _)); exact BK184.out) hb); have n1_ := Aside0.mk (below_step (by repeat (first | (with_reducible first | exact HB.out | apply below_alloc | apply pw_below_drewN | apply below_drew1 | refine below_set ?_ GE184.out) | exact HB.out)) hb); clear BK184; clear HB; have BK184 := n0_; have HB := n1_; clear n0_ n1_; (try clear hb); (try clear hb2); (try clear hk); (try clear hi))); try go_wp2_with (first | (go_at_call 70; (with_reducible refine (uniset_Is.calls kj1 _ _ l0_2 true _ ?side1 ?side2 A14.out).mono ?_); (case side1 => repeat (first | exact (Kd.C_below HR0_2.out HB.out) | (with_reducible refine Kd.C_alloc ?_ _) | (with_reducible refine Kd.C_drewN ?_ _) | (with_reducible refine Kd.C_drew ?_))); (case side2 => exact HC0_2.out); rintro e w20 ⟨rfl, hb⟩; have n0_ := Aside0.mk (blk_below (g := gb184) (o := .cells #[.int .i64 a0_0, .int .i64 a0_1, .slice A0_2 l0_2.length c0_2, .string a0_3, .slice A0_4 l0_4.length c0_4] 26 (0, 0)) (by (with_reducible repeat (first | refine blk_drewN ?_ _ | refine blk_drew ?_ | refine blk_alloc ?_ _)); exact BK184.out) hb); have n1_ := Aside0.mk (below_step (by repeat (first | (with_reducible first | exact HB.out | apply below_alloc | apply pw_below_drewN | apply below_drew1 | refine below_set ?_ GE184.out) | exact HB.out)) hb); clear BK184; clear HB; have BK184 := n0_; have HB := n1_; clear n0_ n1_; (try clear hb); (try clear hb2); (try clear hk); (try clear hi); have hcz21_0 : w20.cell? ⟨gb184, 0, none⟩ = some (.int .i64 a0_0) := (blk_cell BK184.out 0).trans rfl; have hcz21_1 : w20.cell? ⟨gb184, 1, none⟩ = some (.int .i64 a0_1) := (blk_cell BK184.out 1).trans rfl; have hcz21_2 : w20.cell? ⟨gb184, 2, none⟩ = some (.slice A0_2 l0_2.length c0_2) := (blk_cell BK184.out 2).trans rfl; have hcz21_3 : w20.cell? ⟨gb184, 3, none⟩ = some (.string a0_3) := (blk_cell BK184.out 3).trans rfl; have hcz21_4 : w20.cell? ⟨gb184, 4, none⟩ = some (.slice A0_4 l0_4.length c0_4) := (blk_cell BK184.out 4).trans rfl; have hfz21_0 := blk_frozen BK184.out 0; have hfz21_1 := blk_frozen BK184.out 1; have hfz21_2 := blk_frozen BK184.out 2; have hfz21_3 := blk_frozen BK184.out 3; have hfz21_4 := blk_frozen BK184.out 4) | (go_at_call 71; (with_reducible refine (regex_name.calls a0_3 true _ A17.out).mono ?_); rintro e w22 ⟨rfl, hb⟩; have n0_ := Aside0.mk (blk_below (g := gb184) (o := .cells #[.int .i64 a0_0, .int .i64 a0_1, .slice A0_2 l0_2.length c0_2, .string a0_3, .slice A0_4 l0_4.length c0_4] 26 (0, 0)) (by (with_reducible repeat (first | refine blk_drewN ?_ _ | refine blk_drew ?_ | refine blk_alloc ?_ _)); exact BK184.out) hb); have n1_ := Aside0.mk (below_step (by repeat (first | (with_reducible first | exact HB.out | apply below_alloc | apply pw_below_drewN | apply below_drew1 | refine below_set ?_ GE184.out) | exact HB.out)) hb); clear BK184; clear HB; have BK184 := n0_; have HB := n1_; clear n0_ n1_; (try clear hb); (try clear hb2); (try clear hk); (try clear hi))))
         go_ret
         exact ⟨by first | rfl | (simp [errW_none, errW_some] <;> rfl) | (simp [*, errW_none, errW_some] <;> rfl), by repeat (first | (with_reducible first | exact HB.out | apply below_alloc | apply pw_below_drewN | apply below_drew1 | refine below_set ?_ GE184.out) | exact HB.out)⟩
        ·replace c18 := Bool.eq_false_iff.mpr c18
         subst c18
         have H1 : (some false) = some r := by rw [if_neg (show ¬ (false = true) by decide)] at H; exact H
         clear H
         have H := H1
         clear H1
         obtain rfl := Option.some.inj H
         have hcz23_0 : wc.cell? ⟨gb184, 0, none⟩ = some (.int .i64 a0_0) := (blk_cell BK184.out 0).trans rfl
         have hcz23_1 : wc.cell? ⟨gb184, 1, none⟩ = some (.int .i64 a0_1) := (blk_cell BK184.out 1).trans rfl
         have hcz23_2 : wc.cell? ⟨gb184, 2, none⟩ = some (.slice A0_2 l0_2.length c0_2) := (blk_cell BK184.out 2).trans rfl
         have hcz23_3 : wc.cell? ⟨gb184, 3, none⟩ = some (.string a0_3) := (blk_cell BK184.out 3).trans rfl
         have hcz23_4 : wc.cell? ⟨gb184, 4, none⟩ = some (.slice A0_4 l0_4.length c0_4) := (blk_cell BK184.out 4).trans rfl
         have hfz23_0 := blk_frozen BK184.out 0
         have hfz23_1 := blk_frozen BK184.out 1
         have hfz23_2 := blk_frozen BK184.out 2
         have hfz23_3 := blk_frozen BK184.out 3
         have hfz23_4 := blk_frozen BK184.out 4
         go_wp2_with (first | (go_at_call 70; (with_reducible refine (uniset_Is.calls kj1 _ _ l0_2 true _ ?side1 ?side2 A14.out).mono ?_); (case side1 => repeat (first | exact (Kd.C_below HR0_2.out HB.out) | (with_reducible refine Kd.C_alloc ?_ _) | (with_reducible refine Kd.C_drewN ?_ _) | (with_reducible refine Kd.C_drew ?_))); (case side2 => exact HC0_2.out); rintro e w24 ⟨rfl, hb⟩; have n0_ := Aside0.mk (blk_below (g := gb184) (o := .cells #[.int .i64 a0_0, .int .i64 a0_1, .slice A0_2 l0_2.length c0_2, .string a0_3, .slice A0_4 l0_4.length c0_4] 26 (0, 0)) (by (with_reducible repeat (first | refine blk_drewN ?_ _ | refine blk_drew ?_ | refine blk_alloc ?_ _)); exact BK184.out) hb); have n1_ := Aside0.mk (below_step (by repeat (first | (with_reducible first | exact HB.out | apply below_alloc | apply pw_below_drewN | apply below_drew1 | refine below_set ?_ GE184.out) | exact HB.out)) hb); clear BK184; clear HB; have BK184 := n0_; have HB := n1_; clear n0_ n1_; (try clear hb); (try clear hb2); (try clear hk); (try clear hi); have hcz25_0 : w24.cell? ⟨gb184, 0, none⟩ = some (.int .i64 a0_0) := (blk_cell BK184.out 0).trans rfl; have hcz25_1 : w24.cell? ⟨gb184, 1, none⟩ = some (.int .i64 a0_1) := (blk_cell BK184.out 1).trans rfl; have hcz25_2 : w24.cell? ⟨gb184, 2, none⟩ = some (.slice A0_2 l0_2.length c0_2) := (blk_cell BK184.out 2).trans rfl; have hcz25_3 : w24.cell? ⟨gb184, 3, none⟩ = some (.string a0_3) := (blk_cell BK184.out 3).trans rfl; have hcz25_4 : w24.cell? ⟨gb184, 4, none⟩ = some (.slice A0_4 l0_4.length c0_4) := (blk_cell BK184.out 4).trans rfl; have hfz25_0 := blk_frozen BK184.out 0; have hfz25_1 := blk_frozen BK184.out 1; have hfz25_2 := blk_frozen BK184.out 2; have hfz25_3 := blk_frozen BK184.out 3; have hfz25_4 := blk_frozen BK184.out 4) | (go_at_call 71; (with_reducible refine (regex_name.calls a0_3 false _ A17.out).mono ?_); rintro e w26 ⟨rfl, hb⟩; have n0_ := Aside0.mk (blk_below (g := gb184) (o := .cells #[.int .i64 a0_0, .int .i64 a0_1, .slice A0_2 l0_2.length c0_2, .string a0_3, .slice A0_4 l0_4.length c0_4] 26 (0, 0)) (by (with_reducible repeat (first | refine blk_drewN ?_ _ | refine blk_drew ?_ | refine blk_alloc ?_ _)); exact BK184.out) hb); have n1_ := Aside0.mk (below_step (by repeat (first | (with_reducible first | exact HB.out | apply below_alloc | apply pw_below_drewN | apply below_drew1 | refine below_set ?_ GE184.out) | exact HB.out)) hb); clear BK184; clear HB; have BK184 := n0_; have HB := n1_; clear n0_ n1_; (try clear hb); (try clear hb2); (try clear hk); (try clear hi); have hcz27_0 : w26.cell? ⟨gb184, 0, none⟩ = some (.int .i64 a0_0) := (blk_cell BK184.out 0).trans rfl; have hcz27_1 : w26.cell? ⟨gb184, 1, none⟩ = some (.int .i64 a0_1) := (blk_cell BK184.out 1).trans rfl; have hcz27_2 : w26.cell? ⟨gb184, 2, none⟩ = some (.slice A0_2 l0_2.length c0_2) := (blk_cell BK184.out 2).trans rfl; have hcz27_3 : w26.cell? ⟨gb184, 3, none⟩ = some (.string a0_3) := (blk_cell BK184.out 3).trans rfl; have hcz27_4 : w26.cell? ⟨gb184, 4, none⟩ = some (.slice A0_4 l0_4.length c0_4) := (blk_cell BK184.out 4).trans rfl; have hfz27_0 := blk_frozen BK184.out 0; have hfz27_1 := blk_frozen BK184.out 1; have hfz27_2 := blk_frozen BK184.out 2; have hfz27_3 := blk_frozen BK184.out 3; have hfz27_4 := blk_frozen BK184.out 4))
         repeat (go_quiet (first | (go_at_call 70; (with_reducible refine (uniset_Is.calls kj1 _ _ l0_2 true _ ?side1 ?side2 A14.out).mono ?_); (case side1 => repeat (first | exact (Kd.C_below HR0_2.out HB.out) | (with_reducible refine Kd.C_alloc ?_ _) | (with_reducible refine Kd.C_drewN ?_ _) | (with_reducible refine Kd.C_drew ?_))); (case side2 => exact HC0_2.out); rintro e w24 ⟨rfl, hb⟩; have n0_ := Aside0.mk (blk_below (g := gb184) (o := .cells #[.int .i64 a0_0, .int .i64 a0_1, .slice A0_2 l0_2.length c0_2, .string a0_3, .slice A0_4 l0_4.length c0_4] 26 (0, 0)) (by (with_reducible repeat (first | refine blk_drewN ?_ _ | refine blk_drew ?_ | refine blk_alloc ?_ _)); exact BK184.out) hb); have n1_ := Aside0.mk (below_step (by repeat (first | (with_reducible first | exact HB.out | apply below_alloc | apply pw_below_drewN | apply below_drew1 | refine below_set ?_ GE184.out) | exact HB.out)) hb); clear BK184; clear HB; have BK184 := n0_; have HB := n1_; clear n0_ n1_; (try clear hb); (try clear hb2); (try clear hk); (try clear hi); have hcz25_0 : w24.cell? ⟨gb184, 0, none⟩ = some (.int .i64 a0_0) := (blk_cell BK184.out 0).trans rfl; have hcz25_1 : w24.cell? ⟨gb184, 1, none⟩ = some (.int .i64 a0_1) := (blk_cell BK184.out 1).trans rfl; have hcz25_2 : w24.cell? ⟨gb184, 2, none⟩ = some (.slice A0_2 l0_2.length c0_2) := (blk_cell BK184.out 2).trans rfl; have hcz25_3 : w24.cell? ⟨gb184, 3, none⟩ = some (.string a0_3) := (blk_cell BK184.out 3).trans rfl; have hcz25_4 : w24.cell? ⟨gb184, 4, none⟩ = some (.slice A0_4 l0_4.length c0_4) := (blk_cell BK184.out 4).trans rfl; have hfz25_0 := blk_frozen BK184.out 0; have hfz25_1 := blk_frozen BK184.out 1; have hfz25_2 := blk_frozen BK184.out 2; have hfz25_3 := blk_frozen BK184.out 3; have hfz25_4 := blk_frozen BK184.out 4) | (go_at_call 71; (with_reducible refine (regex_name.calls a0_3 false _ A17.out).mono ?_); rintro e w26 ⟨rfl, hb⟩; have n0_ := Aside0.mk (blk_below (g := gb184) (o := .cells #[.int .i64 a0_0, .int .i64 a0_1, .slice A0_2 l0_2.length c0_2, .string a0_3, .slice A0_4 l0_4.length c0_4] 26 (0, 0)) (by (with_reducible repeat (first | refine blk_drewN ?_ _ | refine blk_drew ?_ | refine blk_alloc ?_ _)); exact BK184.out) hb); have n1_ := Aside0.mk (below_step (by repeat (first | (with_reducible first | exact HB.out | apply below_alloc | apply pw_below_drewN | apply below_drew1 | refine below_set ?_ GE184.out) | exact HB.out)) hb); clear BK184; clear HB; have BK184 := n0_; have HB := n1_; clear n0_ n1_; (try clear hb); (try clear hb2); (try clear hk); (try clear hi); have hcz27_0 : w26.cell? ⟨gb184, 0, none⟩ = some (.int .i64 a0_0) := (blk_cell BK184.out 0).trans rfl; have hcz27_1 : w26.cell? ⟨gb184, 1, none⟩ = some (.int .i64 a0_1) := (blk_cell BK184.out 1).trans rfl; have hcz27_2 : w26.cell? ⟨gb184, 2, none⟩ = some (.slice A0_2 l0_2.length c0_2) := (blk_cell BK184.out 2).trans rfl; have hcz27_3 : w26.cell? ⟨gb184, 3, none⟩ = some (.string a0_3) := (blk_cell BK184.out 3).trans rfl; have hcz27_4 : w26.cell? ⟨gb184, 4, none⟩ = some (.slice A0_4 l0_4.length c0_4) := (blk_cell BK184.out 4).trans rfl; have hfz27_0 := blk_frozen BK184.out 0; have hfz27_1 := blk_frozen BK184.out 1; have hfz27_2 := blk_frozen BK184.out 2; have hfz27_3 := blk_frozen BK184.out 3; have hfz27_4 := blk_frozen BK184.out 4)); try go_wp2_with (first | (go_at_call 70; (with_reducible refine (uniset_Is.calls kj1 _ _ l0_2 true _ ?side1 ?side2 A14.out).mono ?_); (case side1 => repeat (first | exact (Kd.C_below HR0_2.out HB.out) | (with_reducible refine Kd.C_alloc ?_ _) | (with_reducible refine Kd.C_drewN ?_ _) | (with_reducible refine Kd.C_drew ?_))); (case side2 => exact HC0_2.out); rintro e w24 ⟨rfl, hb⟩; have n0_ := Aside0.mk (blk_below (g := gb184) (o := .cells #[.int .i64 a0_0, .int .i64 a0_1, .slice A0_2 l0_2.length c0_2, .string a0_3, .slice A0_4 l0_4.length c0_4] 26 (0, 0)) (by (with_reducible repeat (first | refine blk_drewN ?_ _ | refine blk_drew ?_ | refine blk_alloc ?_ _)); exact BK184.out) hb); have n1_ := Aside0.mk (below_step (by repeat (first | (with_reducible first | exact HB.out | apply below_alloc | apply pw_below_drewN | apply below_drew1 | refine below_set ?_ GE184.out) | exact HB.out)) hb); clear BK184; clear HB; have BK184 := n0_; have HB := n1_; clear n0_ n1_; (try clear hb); (try clear hb2); (try clear hk); (try clear hi); have hcz25_0 : w24.cell? ⟨gb184, 0, none⟩ = some (.int .i64 a0_0) := (blk_cell BK184.out 0).trans rfl; have hcz25_1 : w24.cell? ⟨gb184, 1, none⟩ = some (.int .i64 a0_1) := (blk_cell BK184.out 1).trans rfl; have hcz25_2 : w24.cell? ⟨gb184, 2, none⟩ = some (.slice A0_2 l0_2.length c0_2) := (blk_cell BK184.out 2).trans rfl; have hcz25_3 : w24.cell? ⟨gb184, 3, none⟩ = some (.string a0_3) := (blk_cell BK184.out 3).trans rfl; have hcz25_4 : w24.cell? ⟨gb184, 4, none⟩ = some (.slice A0_4 l0_4.length c0_4) := (blk_cell BK184.out 4).trans rfl; have hfz25_0 := blk_frozen BK184.out 0; have hfz25_1 := blk_frozen BK184.out 1; have hfz25_2 := blk_frozen BK184.out 2; have hfz25_3 := blk_frozen BK184.out 3; have hfz25_4 := blk_frozen BK184.out 4) | (go_at_call 71; (with_reducible refine (regex_name.calls a0_3 false _ A17.out).mono ?_); rintro e w26 ⟨rfl, hb⟩; have n0_ := Aside0.mk (blk_below (g := gb184) (o := .cells #[.int .i64 a0_0, .int .i64 a0_1, .slice A0_2 l0_2.length c0_2, .string a0_3, .slice A0_4 l0_4.length c0_4] 26 (0, 0)) (by (with_reducible repeat (first | refine blk_drewN ?_ _ | refine blk_drew ?_ | refine blk_alloc ?_ _)); exact BK184.out) hb); have n1_ := Aside0.mk (below_step (by repeat (first | (with_reducible first | exact HB.out | apply below_alloc | apply pw_below_drewN | apply below_drew1 | refine below_set ?_ GE184.out) | exact HB.out)) hb); clear BK184; clear HB; have BK184 := n0_; have HB := n1_; clear n0_ n1_; (try clear hb); (try clear hb2); (try clear hk); (try clear hi); have hcz27_0 : w26.cell? ⟨gb184, 0, none⟩ = some (.int .i64 a0_0) := (blk_cell BK184.out 0).trans rfl; have hcz27_1 : w26.cell? ⟨gb184, 1, none⟩ = some (.int .i64 a0_1) := (blk_cell BK184.out 1).trans rfl; have hcz27_2 : w26.cell? ⟨gb184, 2, none⟩ = some (.slice A0_2 l0_2.length c0_2) := (blk_cell BK184.out 2).trans rfl; have hcz27_3 : w26.cell? ⟨gb184, 3, none⟩ = some (.string a0_3) := (blk_cell BK184.out 3).trans rfl; have hcz27_4 : w26.cell? ⟨gb184, 4, none⟩ = some (.slice A0_4 l0_4.length c0_4) := (blk_cell BK184.out 4).trans rfl; have hfz27_0 := blk_frozen BK184.out 0; have hfz27_1 := blk_frozen BK184.out 1; have hfz27_2 := blk_frozen BK184.out 2; have hfz27_3 := blk_frozen BK184.out 3; have hfz27_4 := blk_frozen BK184.out 4)))
         go_ret
         exact ⟨by first | rfl | (simp [errW_none, errW_some] <;> rfl) | (simp [*, errW_none, errW_some] <;> rfl), by repeat (first | (with_reducible first | exact HB.out | apply below_alloc | apply pw_below_drewN | apply below_drew1 | refine below_set ?_ GE184.out) | exact HB.out)⟩
       ·rw [if_neg c16] at H
        have c16b0 : (a0_0 == 2) = false := beq_eq_false_iff_ne.mpr c16
        have c16b1 : (a0_0 != 2) = true := bne_iff_ne.mpr c16
        obtain rfl := Option.some.inj H
        have hcz28_0 : wc.cell? ⟨gb184, 0, none⟩ = some (.int .i64 a0_0) := (blk_cell BK184.out 0).trans rfl
        have hcz28_1 : wc.cell? ⟨gb184, 1, none⟩ = some (.int .i64 a0_1) := (blk_cell BK184.out 1).trans rfl
        have hcz28_2 : wc.cell? ⟨gb184, 2, none⟩ = some (.slice A0_2 l0_2.length c0_2) := (blk_cell BK184.out 2).trans rfl
        have hcz28_3 : wc.cell? ⟨gb184, 3, none⟩ = some (.string a0_3) := (blk_cell BK184.out 3).trans rfl
        have hcz28_4 : wc.cell? ⟨gb184, 4, none⟩ = some (.slice A0_4 l0_4.length c0_4) := (blk_cell BK184.out 4).trans rfl
        have hfz28_0 := blk_frozen BK184.out 0
        have hfz28_1 := blk_frozen BK184.out 1
        have hfz28_2 := blk_frozen BK184.out 2
        have hfz28_3 := blk_frozen BK184.out 3
        have hfz28_4 := blk_frozen BK184.out 4
        go_wp2_with (first | (go_at_call 70; (with_reducible refine (uniset_Is.calls kj1 _ _ l0_2 true _ ?side1 ?side2 A14.out).mono ?_); (case side1 => repeat (first | exact (Kd.C_below HR0_2.out HB.out) | (with_reducible refine Kd.C_alloc ?_ _) | (with_reducible refine Kd.C_drewN ?_ _) | (with_reducible refine Kd.C_drew ?_))); (case side2 => exact HC0_2.out); rintro e w29 ⟨rfl, hb⟩; have n0_ := Aside0.mk (blk_below (g := gb184) (o := .cells #[.int .i64 a0_0, .int .i64 a0_1, .slice A0_2 l0_2.length c0_2, .string a0_3, .slice A0_4 l0_4.length c0_4] 26 (0, 0)) (by (with_reducible repeat (first | refine blk_drewN ?_ _ | refine blk_drew ?_ | refine blk_alloc ?_ _)); exact BK184.out) hb); have n1_ := Aside0.mk (below_step (by repeat (first | (with_reducible first | exact HB.out | apply below_alloc | apply pw_below_drewN | apply below_drew1 | refine below_set ?_ GE184.out) | exact HB.out)) hb); clear BK184; clear HB; have BK184 := n0_; have HB := n1_; clear n0_ n1_; (try clear hb); (try clear hb2); (try clear hk); (try clear hi); have hcz30_0 : w29.cell? ⟨gb184, 0, none⟩ = some (.int .i64 a0_0) := (blk_cell BK184.out 0).trans rfl; have hcz30_1 : w29.cell? ⟨gb184, 1, none⟩ = some (.int .i64 a0_1) := (blk_cell BK184.out 1).trans rfl; have hcz30_2 : w29.cell? ⟨gb184, 2, none⟩ = some (.slice A0_2 l0_2.length c0_2) := (blk_cell BK184.out 2).trans rfl; have hcz30_3 : w29.cell? ⟨gb184, 3, none⟩ = some (.string a0_3) := (blk_cell BK184.out 3).trans rfl; have hcz30_4 : w29.cell? ⟨gb184, 4, none⟩ = some (.slice A0_4 l0_4.length c0_4) := (blk_cell BK184.out 4).trans rfl; have hfz30_0 := blk_frozen BK184.out 0; have hfz30_1 := blk_frozen BK184.out 1; have hfz30_2 := blk_frozen BK184.out 2; have hfz30_3 := blk_frozen BK184.out 3; have hfz30_4 := blk_frozen BK184.out 4))
        repeat (go_quiet (first | (go_at_call 70; (with_reducible refine (uniset_Is.calls kj1 _ _ l0_2 true _ ?side1 ?side2 A14.out).mono ?_); (case side1 => repeat (first | exact (Kd.C_below HR0_2.out HB.out) | (with_reducible refine Kd.C_alloc ?_ _) | (with_reducible refine Kd.C_drewN ?_ _) | (with_reducible refine Kd.C_drew ?_))); (case side2 => exact HC0_2.out); rintro e w29 ⟨rfl, hb⟩; have n0_ := Aside0.mk (blk_below (g := gb184) (o := .cells #[.int .i64 a0_0, .int .i64 a0_1, .slice A0_2 l0_2.length c0_2, .string a0_3, .slice A0_4 l0_4.length c0_4] 26 (0, 0)) (by (with_reducible repeat (first | refine blk_drewN ?_ _ | refine blk_drew ?_ | refine blk_alloc ?_ _)); exact BK184.out) hb); have n1_ := Aside0.mk (below_step (by repeat (first | (with_reducible first | exact HB.out | apply below_alloc | apply pw_below_drewN | apply below_drew1 | refine below_set ?_ GE184.out) | exact HB.out)) hb); clear BK184; clear HB; have BK184 := n0_; have HB := n1_; clear n0_ n1_; (try clear hb); (try clear hb2); (try clear hk); (try clear hi); have hcz30_0 : w29.cell? ⟨gb184, 0, none⟩ = some (.int .i64 a0_0) := (blk_cell BK184.out 0).trans rfl; have hcz30_1 : w29.cell? ⟨gb184, 1, none⟩ = some (.int .i64 a0_1) := (blk_cell BK184.out 1).trans rfl; have hcz30_2 : w29.cell? ⟨gb184, 2, none⟩ = some (.slice A0_2 l0_2.length c0_2) := (blk_cell BK184.out 2).trans rfl; have hcz30_3 : w29.cell? ⟨gb184, 3, none⟩ = some (.string a0_3) := (blk_cell BK184.out 3).trans rfl; have hcz30_4 : w29.cell? ⟨gb184, 4, none⟩ = some (.slice A0_4 l0_4.length c0_4) := (blk_cell BK184.out 4).trans rfl; have hfz30_0 := blk_frozen BK184.out 0; have hfz30_1 := blk_frozen BK184.out 1; have hfz30_2 := blk_frozen BK184.out 2; have hfz30_3 := blk_frozen BK184.out 3; have hfz30_4 := blk_frozen BK184.out 4)); try go_wp2_with (first | (go_at_call 70; (with_reducible refine (uniset_Is.calls kj1 _ _ l0_2 true _ ?side1 ?side2 A14.out).mono ?_); (case side1 => repeat (first | exact (Kd.C_below HR0_2.out HB.out) | (with_reducible refine Kd.C_alloc ?_ _) | (with_reducible refine Kd.C_drewN ?_ _) | (with_reducible refine Kd.C_drew ?_))); (case side2 => exact HC0_2.out); rintro e w29 ⟨rfl, hb⟩; have n0_ := Aside0.mk (blk_below (g := gb184) (o := .cells #[.int .i64 a0_0, .int .i64 a0_1, .slice A0_2 l0_2.length c0_2, .string a0_3, .slice A0_4 l0_4.length c0_4] 26 (0, 0)) (by (with_reducible repeat (first | refine blk_drewN ?_ _ | refine blk_drew ?_ | refine blk_alloc ?_ _)); exact BK184.out) hb); have n1_ := Aside0.mk (below_step (by repeat (first | (with_reducible first | exact HB.out | apply below_alloc | apply pw_below_drewN | apply below_drew1 | refine below_set ?_ GE184.out) | exact HB.out)) hb); clear BK184; clear HB; have BK184 := n0_; have HB := n1_; clear n0_ n1_; (try clear hb); (try clear hb2); (try clear hk); (try clear hi); have hcz30_0 : w29.cell? ⟨gb184, 0, none⟩ = some (.int .i64 a0_0) := (blk_cell BK184.out 0).trans rfl; have hcz30_1 : w29.cell? ⟨gb184, 1, none⟩ = some (.int .i64 a0_1) := (blk_cell BK184.out 1).trans rfl; have hcz30_2 : w29.cell? ⟨gb184, 2, none⟩ = some (.slice A0_2 l0_2.length c0_2) := (blk_cell BK184.out 2).trans rfl; have hcz30_3 : w29.cell? ⟨gb184, 3, none⟩ = some (.string a0_3) := (blk_cell BK184.out 3).trans rfl; have hcz30_4 : w29.cell? ⟨gb184, 4, none⟩ = some (.slice A0_4 l0_4.length c0_4) := (blk_cell BK184.out 4).trans rfl; have hfz30_0 := blk_frozen BK184.out 0; have hfz30_1 := blk_frozen BK184.out 1; have hfz30_2 := blk_frozen BK184.out 2; have hfz30_3 := blk_frozen BK184.out 3; have hfz30_4 := blk_frozen BK184.out 4)))
        go_ret
        exact ⟨by first | rfl | (simp [errW_none, errW_some] <;> rfl) | (simp [*, errW_none, errW_some] <;> rfl), by repeat (first | (with_reducible first | exact HB.out | apply below_alloc | apply pw_below_drewN | apply below_drew1 | refine below_set ?_ GE184.out) | exact HB.out)⟩
      ·replace c15 := Bool.eq_false_iff.mpr c15
       subst c15
       have H1 : (some false) = some r := by rw [if_neg (show ¬ (false = true) by decide)] at H; exact H
       clear H
       have H := H1
       clear H1
       obtain rfl := Option.some.inj H
       have hcz31_0 : wc.cell? ⟨gb184, 0, none⟩ = some (.int .i64 a0_0) := (blk_cell BK184.out 0).trans rfl
       have hcz31_1 : wc.cell? ⟨gb184, 1, none⟩ = some (.int .i64 a0_1) := (blk_cell BK184.out 1).trans rfl
       have hcz31_2 : wc.cell? ⟨gb184, 2, none⟩ = some (.slice A0_2 l0_2.length c0_2) := (blk_cell BK184.out 2).trans rfl
       have hcz31_3 : wc.cell? ⟨gb184, 3, none⟩ = some (.string a0_3) := (blk_cell BK184.out 3).trans rfl
       have hcz31_4 : wc.cell? ⟨gb184, 4, none⟩ = some (.slice A0_4 l0_4.length c0_4) := (blk_cell BK184.out 4).trans rfl
       have hfz31_0 := blk_frozen BK184.out 0
       have hfz31_1 := blk_frozen BK184.out 1
       have hfz31_2 := blk_frozen BK184.out 2
       have hfz31_3 := blk_frozen BK184.out 3
       have hfz31_4 := blk_frozen BK184.out 4
       go_wp2_with (first | (go_at_call 70; (with_reducible refine (uniset_Is.calls kj1 _ _ l0_2 false _ ?side1 ?side2 A14.out).mono ?_); (case side1 => repeat (first | exact (Kd.C_below HR0_2.out HB.out) | (with_reducible refine Kd.C_alloc ?_ _) | (with_reducible refine Kd.C_drewN ?_ _) | (with_reducible refine Kd.C_drew ?_))); (case side2 => exact HC0_2.out); rintro e w32 ⟨rfl, hb⟩; have n0_ := Aside0.mk (blk_below (g := gb184) (o := .cells #[.int .i64 a0_0, .int .i64 a0_1, .slice A0_2 l0_2.length c0_2, .string a0_3, .slice A0_4 l0_4.length c0_4] 26 (0, 0)) (by (with_reducible repeat (first | refine blk_drewN ?_ _ | refine blk_drew ?_ | refine blk_alloc ?_ _)); exact BK184.out) hb); have n1_ := Aside0.mk (below_step (by repeat (first | (with_reducible first | exact HB.out | apply below_alloc | apply pw_below_drewN | apply below_drew1 | refine below_set ?_ GE184.out) | exact HB.out)) hb); clear BK184; clear HB; have BK184 := n0_; have HB := n1_; clear n0_ n1_; (try clear hb); (try clear hb2); (try clear hk); (try clear hi)))
       repeat (go_quiet (first | (go_at_call 70; (with_reducible refine (uniset_Is.calls kj1 _ _ l0_2 false _ ?side1 ?side2 A14.out).mono ?_); (case side1 => repeat (first | exact (Kd.C_below HR0_2.out HB.out) | (with_reducible refine Kd.C_alloc ?_ _) | (with_reducible refine Kd.C_drewN ?_ _) | (with_reducible refine Kd.C_drew ?_))); (case side2 => exact HC0_2.out); rintro e w32 ⟨rfl, hb⟩; have n0_ := Aside0.mk (blk_below (g := gb184) (o := .cells #[.int .i64 a0_0, .int .i64 a0_1, .slice A0_2 l0_2.length c0_2, .string a0_3, .slice A0_4 l0_4.length c0_4] 26 (0, 0)) (by (with_reducible repeat (first | refine blk_drewN ?_ _ | refine blk_drew ?_ | refine blk_alloc ?_ _)); exact BK184.out) hb); have n1_ := Aside0.mk (below_step (by repeat (first | (with_reducible first | exact HB.out | apply below_alloc | apply pw_below_drewN | apply below_drew1 | refine below_set ?_ GE184.out) | exact HB.out)) hb); clear BK184; clear HB; have BK184 := n0_; have HB := n1_; clear n0_ n1_; (try clear hb); (try clear hb2); (try clear hk); (try clear hi))); try go_wp2_with (first | (go_at_call 70; (with_reducible refine (uniset_Is.calls kj1 _ _ l0_2 false _ ?side1 ?side2 A14.out).mono ?_); (case side1 => repeat (first | exact (Kd.C_below HR0_2.out HB.out) | (with_reducible refine Kd.C_alloc ?_ _) | (with_reducible refine Kd.C_drewN ?_ _) | (with_reducible refine Kd.C_drew ?_))); (case side2 => exact HC0_2.out); rintro e w32 ⟨rfl, hb⟩; have n0_ := Aside0.mk (blk_below (g := gb184) (o := .cells #[.int .i64 a0_0, .int .i64 a0_1, .slice A0_2 l0_2.length c0_2, .string a0_3, .slice A0_4 l0_4.length c0_4] 26 (0, 0)) (by (with_reducible repeat (first | refine blk_drewN ?_ _ | refine blk_drew ?_ | refine blk_alloc ?_ _)); exact BK184.out) hb); have n1_ := Aside0.mk (below_step (by repeat (first | (with_reducible first | exact HB.out | apply below_alloc | apply pw_below_drewN | apply below_drew1 | refine below_set ?_ GE184.out) | exact HB.out)) hb); clear BK184; clear HB; have BK184 := n0_; have HB := n1_; clear n0_ n1_; (try clear hb); (try clear hb2); (try clear hk); (try clear hi))))
       go_ret
       exact ⟨by first | rfl | (simp [errW_none, errW_some] <;> rfl) | (simp [*, errW_none, errW_some] <;> rfl), by repeat (first | (with_reducible first | exact HB.out | apply below_alloc | apply pw_below_drewN | apply below_drew1 | refine below_set ?_ GE184.out) | exact HB.out)⟩
    ·rw [if_neg c11] at H
     have c11b0 : (a0_0 == 1) = false := beq_eq_false_iff_ne.mpr c11
     have c11b1 : (a0_0 != 1) = true := bne_iff_ne.mpr c11
     by_cases c33 : (l0_2.length : Int) > 0
     ·rw [if_pos c33] at H
      have c33b0 : decide (0 < (l0_2.length : Int)) = true := decide_eq_true c33
      have c33b1 : decide (0 < l0_2.length) = true := decide_eq_true (by omega)
      clear c33
      obtain rfl := Option.some.inj H
      have hcz34_0 : wc.cell? ⟨gb184, 0, none⟩ = some (.int .i64 a0_0) := (blk_cell BK184.out 0).trans rfl
      have hcz34_1 : wc.cell? ⟨gb184, 1, none⟩ = some (.int .i64 a0_1) := (blk_cell BK184.out 1).trans rfl
      have hcz34_2 : wc.cell? ⟨gb184, 2, none⟩ = some (.slice A0_2 l0_2.length c0_2) := (blk_cell BK184.out 2).trans rfl
      have hcz34_3 : wc.cell? ⟨gb184, 3, none⟩ = some (.string a0_3) := (blk_cell BK184.out 3).trans rfl
      have hcz34_4 : wc.cell? ⟨gb184, 4, none⟩ = some (.slice A0_4 l0_4.length c0_4) := (blk_cell BK184.out 4).trans rfl
      have hfz34_0 := blk_frozen BK184.out 0
      have hfz34_1 := blk_frozen BK184.out 1
      have hfz34_2 := blk_frozen BK184.out 2
      have hfz34_3 := blk_frozen BK184.out 3
      have hfz34_4 := blk_frozen BK184.out 4
      go_wp2
      repeat (go_quiet (fail); try go_wp2)
      go_ret
      exact ⟨by first | rfl | (simp [errW_none, errW_some] <;> rfl) | (simp [*, errW_none, errW_some] <;> rfl), by repeat (first | (with_reducible first | exact HB.out | apply below_alloc | apply pw_below_drewN | apply below_drew1 | refine below_set ?_ GE184.out) | exact HB.out)⟩
     ·rw [if_neg c33] at H
      have c33b0 : decide (0 < (l0_2.length : Int)) = false := decide_eq_false c33
      have c33b1 : decide (0 < l0_2.length) = false := decide_eq_false (by omega)
      clear c33
      by_cases c35 : a0_0 = 2
      ·rw [if_pos c35] at H
       have c35b0 : (a0_0 == 2) = true := beq_iff_eq.mpr c35
       have c35b1 : (a0_0 != 2) = false := bne_eq_false_iff_eq.mpr c35
       clear c35
       replace H := Option.bind_eq_some_iff.mp H
       obtain ⟨t188, A360, H⟩ := H
       replace H : (if t188 = true then (some true) else (some false)) = some r := H
       have A36 := Aside0.mk A360
       clear A360
       by_cases c37 : t188 = true
       ·subst c37
        have H1 : (some true) = some r := by rw [if_pos rfl] at H; exact H
        clear H
        have H := H1
        clear H1
        obtain rfl := Option.some.inj H
        have hcz38_0 : wc.cell? ⟨gb184, 0, none⟩ = some (.int .i64 a0_0) := (blk_cell BK184.out 0).trans rfl
        have hcz38_1 : wc.cell? ⟨gb184, 1, none⟩ = some (.int .i64 a0_1) := (blk_cell BK184.out 1).trans rfl
        have hcz38_2 : wc.cell? ⟨gb184, 2, none⟩ = some (.slice A0_2 l0_2.length c0_2) := (blk_cell BK184.out 2).trans rfl
        have hcz38_3 : wc.cell? ⟨gb184, 3, none⟩ = some (.string a0_3) := (blk_cell BK184.out 3).trans rfl
        have hcz38_4 : wc.cell? ⟨gb184, 4, none⟩ = some (.slice A0_4 l0_4.length c0_4) := (blk_cell BK184.out 4).trans rfl
        have hfz38_0 := blk_frozen BK184.out 0
        have hfz38_1 := blk_frozen BK184.out 1
        have hfz38_2 := blk_frozen BK184.out 2
        have hfz38_3 := blk_frozen BK184.out 3
        have hfz38_4 := blk_frozen BK184.out 4
        go_wp2_with (first | (go_at_call 71; (with_reducible refine (regex_name.calls a0_3 true _ A36.out).mono ?_); rintro e w39 ⟨rfl, hb⟩; have n0_ := Aside0.mk (blk_below (g := gb184) (o := .cells #[.int .i64 a0_0, .int .i64 a0_1, .slice A0_2 l0_2.length c0_2, .string a0_3, .slice A0_4 l0_4.length c0_4] 26 (0, 0)) (by (with_reducible repeat (first | refine blk_drewN ?_ _ | refine blk_drew ?_ | refine blk_alloc ?_ _)); exact BK184.out) hb); have n1_ := Aside0.mk (below_step (by repeat (first | (with_reducible first | exact HB.out | apply below_alloc | apply pw_below_drewN | apply below_drew1 | refine below_set ?_ GE184.out) | exact HB.out)) hb); clear BK184; clear HB; have BK184 := n0_; have HB := n1_; clear n0_ n1_; (try clear hb); (try clear hb2); (try clear hk); (try clear hi)))
        repeat (go_quiet (first | (go_at_call 71; (with_reducible refine (regex_name.calls a0_3 true _ A36.out).mono ?_); rintro e w39 ⟨rfl, hb⟩; have n0_ := Aside0.mk (blk_below (g := gb184) (o := .cells #[.int .i64 a0_0, .int .i64 a0_1, .slice A0_2 l0_2.length c0_2, .string a0_3, .slice A0_4 l0_4.length c0_4] 26 (0, 0)) (by (with_reducible repeat (first | refine blk_drewN ?_ _ | refine blk_drew ?_ | refine blk_alloc ?_ _)); exact BK184.out) hb); have n1_ := Aside0.mk (below_step (by repeat (first | (with_reducible first | exact HB.out | apply below_alloc | apply pw_below_drewN | apply below_drew1 | refine below_set ?_ GE184.out) | exact HB.out)) hb); clear BK184; clear HB; have BK184 := n0_; have HB := n1_; clear n0_ n1_; (try clear hb); (try clear hb2); (try clear hk); (try clear hi))); try go_wp2_with (first | (go_at_call 71; (with_reducible refine (regex_name.calls a0_3 true _ A36.out).mono ?_); rintro e w39 ⟨rfl, hb⟩; have n0_ := Aside0.mk (blk_below (g := gb184) (o := .cells #[.int .i64 a0_0, .int .i64 a0_1, .slice A0_2 l0_2.length c0_2, .string a0_3, .slice A0_4 l0_4.length c0_4] 26 (0, 0)) (by (with_reducible repeat (first | refine blk_drewN ?_ _ | refine blk_drew ?_ | refine blk_alloc ?_ _)); exact BK184.out) hb); have n1_ := Aside0.mk (below_step (by repeat (first | (with_reducible first | exact HB.out | apply below_alloc | apply pw_below_drewN | apply below_drew1 | refine below_set ?_ GE184.out) | exact HB.out)) hb); clear BK184; clear HB; have BK184 := n0_; have HB := n1_; clear n0_ n1_; (try clear hb); (try clear hb2); (try clear hk); (try clear hi))))
        go_ret
        exact ⟨by first | rfl | (simp [errW_none, errW_some] <;> rfl) | (simp [*, errW_none, errW_some] <;> rfl), by repeat (first | (with_reducible first | exact HB.out | apply below_alloc | apply pw_below_drewN | apply below_drew1 | refine below_set ?_ GE184.out) | exact HB.out)⟩
       ·replace c37 := Bool.eq_false_iff.mpr c37
        subst c37
        have H1 : (some false) = some r := by rw [if_neg (show ¬ (false = true) by decide)] at H; exact H
        clear H
        have H := H1
        clear H1
        obtain rfl := Option.some.inj H
        have hcz40_0 : wc.cell? ⟨gb184, 0, none⟩ = some (.int .i64 a0_0) := (blk_cell BK184.out 0).trans rfl
        have hcz40_1 : wc.cell? ⟨gb184, 1, none⟩ = some (.int .i64 a0_1) := (blk_cell BK184.out 1).trans rfl
        have hcz40_2 : wc.cell? ⟨gb184, 2, none⟩ = some (.slice A0_2 l0_2.length c0_2) := (blk_cell BK184.out 2).trans rfl
        have hcz40_3 : wc.cell? ⟨gb184, 3, none⟩ = some (.string a0_3) := (blk_cell BK184.out 3).trans rfl
        have hcz40_4 : wc.cell? ⟨gb184, 4, none⟩ = some (.slice A0_4 l0_4.length c0_4) := (blk_cell BK184.out 4).trans rfl
        have hfz40_0 := blk_frozen BK184.out 0
        have hfz40_1 := blk_frozen BK184.out 1
        have hfz40_2 := blk_frozen BK184.out 2
        have hfz40_3 := blk_frozen BK184.out 3
        have hfz40_4 := blk_frozen BK184.out 4
        go_wp2_with (first | (go_at_call 71; (with_reducible refine (regex_name.calls a0_3 false _ A36.out).mono ?_); rintro e w41 ⟨rfl, hb⟩; have n0_ := Aside0.mk (blk_below (g := gb184) (o := .cells #[.int .i64 a0_0, .int .i64 a0_1, .slice A0_2 l0_2.length c0_2, .string a0_3, .slice A0_4 l0_4.length c0_4] 26 (0, 0)) (by (with_reducible repeat (first | refine blk_drewN ?_ _ | refine blk_drew ?_ | refine blk_alloc ?_ _)); exact BK184.out) hb); have n1_ := Aside0.mk (below_step (by repeat (first | (with_reducible first | exact HB.out | apply below_alloc | apply pw_below_drewN | apply below_drew1 | refine below_set ?_ GE184.out) | exact HB.out)) hb); clear BK184; clear HB; have BK184 := n0_; have HB := n1_; clear n0_ n1_; (try clear hb); (try clear hb2); (try clear hk); (try clear hi); have hcz42_0 : w41.cell? ⟨gb184, 0, none⟩ = some (.int .i64 a0_0) := (blk_cell BK184.out 0).trans rfl; have hcz42_1 : w41.cell? ⟨gb184, 1, none⟩ = some (.int .i64 a0_1) := (blk_cell BK184.out 1).trans rfl; have hcz42_2 : w41.cell? ⟨gb184, 2, none⟩ = some (.slice A0_2 l0_2.length c0_2) := (blk_cell BK184.out 2).trans rfl; have hcz42_3 : w41.cell? ⟨gb184, 3, none⟩ = some (.string a0_3) := (blk_cell BK184.out 3).trans rfl; have hcz42_4 : w41.cell? ⟨gb184, 4, none⟩ = some (.slice A0_4 l0_4.length c0_4) := (blk_cell BK184.out 4).trans rfl; have hfz42_0 := blk_frozen BK184.out 0; have hfz42_1 := blk_frozen BK184.out 1; have hfz42_2 := blk_frozen BK184.out 2; have hfz42_3 := blk_frozen BK184.out 3; have hfz42_4 := blk_frozen BK184.out 4))
        repeat (go_quiet (first | (go_at_call 71; (with_reducible refine (regex_name.calls a0_3 false _ A36.out).mono ?_); rintro e w41 ⟨rfl, hb⟩; have n0_ := Aside0.mk (blk_below (g := gb184) (o := .cells #[.int .i64 a0_0, .int .i64 a0_1, .slice A0_2 l0_2.length c0_2, .string a0_3, .slice A0_4 l0_4.length c0_4] 26 (0, 0)) (by (with_reducible repeat (first | refine blk_drewN ?_ _ | refine blk_drew ?_ | refine blk_alloc ?_ _)); exact BK184.out) hb); have n1_ := Aside0.mk (below_step (by repeat (first | (with_reducible first | exact HB.out | apply below_alloc | apply pw_below_drewN | apply below_drew1 | refine below_set ?_ GE184.out) | exact HB.out)) hb); clear BK184; clear HB; have BK184 := n0_; have HB := n1_; clear n0_ n1_; (try clear hb); (try clear hb2); (try clear hk); (try clear hi); have hcz42_0 : w41.cell? ⟨gb184, 0, none⟩ = some (.int .i64 a0_0) := (blk_cell BK184.out 0).trans rfl; have hcz42_1 : w41.cell? ⟨gb184, 1, none⟩ = some (.int .i64 a0_1) := (blk_cell BK184.out 1).trans rfl; have hcz42_2 : w41.cell? ⟨gb184, 2, none⟩ = some (.slice A0_2 l0_2.length c0_2) := (blk_cell BK184.out 2).trans rfl; have hcz42_3 : w41.cell? ⟨gb184, 3, none⟩ = some (.string a0_3) := (blk_cell BK184.out 3).trans rfl; have hcz42_4 : w41.cell? ⟨gb184, 4, none⟩ = some (.slice A0_4 l0_4.length c0_4) := (blk_cell BK184.out 4).trans rfl; have hfz42_0 := blk_frozen BK184.out 0; have hfz42_1 := blk_frozen BK184.out 1; have hfz42_2 := blk_frozen BK184.out 2; have hfz42_3 := blk_frozen BK184.out 3; have hfz42_4 := blk_frozen BK184.out 4)); try go_wp2_with (first | (go_at_call 71; (with_reducible refine (regex_name.calls a0_3 false _ A36.out).mono ?_); rintro e w41 ⟨rfl, hb⟩; have n0_ := Aside0.mk (blk_below (g := gb184) (o := .cells #[.int .i64 a0_0, .int .i64 a0_1, .slice A0_2 l0_2.length c0_2, .string a0_3, .slice A0_4 l0_4.length c0_4] 26 (0, 0)) (by (with_reducible repeat (first | refine blk_drewN ?_ _ | refine blk_drew ?_ | refine blk_alloc ?_ _)); exact BK184.out) hb); have n1_ := Aside0.mk (below_step (by repeat (first | (with_reducible first | exact HB.out | apply below_alloc | apply pw_below_drewN | apply below_drew1 | refine below_set ?_ GE184.out) | exact HB.out)) hb); clear BK184; clear HB; have BK184 := n0_; have HB := n1_; clear n0_ n1_; (try clear hb); (try clear hb2); (try clear hk); (try clear hi); have hcz42_0 : w41.cell? ⟨gb184, 0, none⟩ = some (.int .i64 a0_0) := (blk_cell BK184.out 0).trans rfl; have hcz42_1 : w41.cell? ⟨gb184, 1, none⟩ = some (.int .i64 a0_1) := (blk_cell BK184.out 1).trans rfl; have hcz42_2 : w41.cell? ⟨gb184, 2, none⟩ = some (.slice A0_2 l0_2.length c0_2) := (blk_cell BK184.out 2).trans rfl; have hcz42_3 : w41.cell? ⟨gb184, 3, none⟩ = some (.string a0_3) := (blk_cell BK184.out 3).trans rfl; have hcz42_4 : w41.cell? ⟨gb184, 4, none⟩ = some (.slice A0_4 l0_4.length c0_4) := (blk_cell BK184.out 4).trans rfl; have hfz42_0 := blk_frozen BK184.out 0; have hfz42_1 := blk_frozen BK184.out 1; have hfz42_2 := blk_frozen BK184.out 2; have hfz42_3 := blk_frozen BK184.out 3; have hfz42_4 := blk_frozen BK184.out 4)))
        go_ret
        exact ⟨by first | rfl | (simp [errW_none, errW_some] <;> rfl) | (simp [*, errW_none, errW_some] <;> rfl), by repeat (first | (with_reducible first | exact HB.out | apply below_alloc | apply pw_below_drewN | apply below_drew1 | refine below_set ?_ GE184.out) | exact HB.out)⟩
      ·rw [if_neg c35] at H
       have c35b0 : (a0_0 == 2) = false := beq_eq_false_iff_ne.mpr c35
       have c35b1 : (a0_0 != 2) = true := bne_iff_ne.mpr c35
       obtain rfl := Option.some.inj H
       have hcz43_0 : wc.cell? ⟨gb184, 0, none⟩ = some (.int .i64 a0_0) := (blk_cell BK184.out 0).trans rfl
       have hcz43_1 : wc.cell? ⟨gb184, 1, none⟩ = some (.int .i64 a0_1) := (blk_cell BK184.out 1).trans rfl
       have hcz43_2 : wc.cell? ⟨gb184, 2, none⟩ = some (.slice A0_2 l0_2.length c0_2) := (blk_cell BK184.out 2).trans rfl
       have hcz43_3 : wc.cell? ⟨gb184, 3, none⟩ = some (.string a0_3) := (blk_cell BK184.out 3).trans rfl
       have hcz43_4 : wc.cell? ⟨gb184, 4, none⟩ = some (.slice A0_4 l0_4.length c0_4) := (blk_cell BK184.out 4).trans rfl
       have hfz43_0 := blk_frozen BK184.out 0
       have hfz43_1 := blk_frozen BK184.out 1
       have hfz43_2 := blk_frozen BK184.out 2
       have hfz43_3 := blk_frozen BK184.out 3
       have hfz43_4 := blk_frozen BK184.out 4
       go_wp2
       repeat (go_quiet (fail); try go_wp2)
       go_ret
       exact ⟨by first | rfl | (simp [errW_none, errW_some] <;> rfl) | (simp [*, errW_none, errW_some] <;> rfl), by repeat (first | (with_reducible first | exact HB.out | apply below_alloc | apply pw_below_drewN | apply below_drew1 | refine below_set ?_ GE184.out) | exact HB.out)⟩

end Go.Proofs.YtfinjenkgpndlaaGreatDoor.PA

namespace Go.Proofs.YtfinjenkgpndlaaGreatDoor.PA
open Go.RowKit Go.Shelf Go.Proofs.YtfinjenkgpndlaaGreatDoorW.PrintWords Go.Proofs.YtfinjenkgpndlaaGreatDoorW.PrintLast Go.Proofs.YtfinjenkgpndlaaGreatDoorW.PrintMore
attribute [local go_sem] Oper.semAt_some
set_option linter.unusedVariables false
set_option linter.unusedSimpArgs false

theorem kids_ev (n : Int) : Evt (fun k => regex_kids.f k n) (kidsK n : Int) := by
  unfold regex_kids.f kidsK
  by_cases h4 : n = 4
  · subst h4
    exact Evt.succ (g := fun _ => some 2) (fun k => by simp [regex_kids.j0]) (Evt.pure _)
  · simp only [if_neg h4]
    refine Evt.succ (g := fun _ => some _) (fun k => ?_) (Evt.pure _)
    by_cases h5 : n = 5
    · subst h5; simp [regex_kids.j0]
    · have e5 : (n == 5) = false := beq_eq_false_iff_ne.2 h5
      unfold regex_kids.j0
      rw [e5]
      by_cases h6 : n = 6
      · subst h6; simp
      · by_cases h7 : n = 7
        · subst h7; simp
        · by_cases h8 : n = 8
          · subst h8; simp
          · simp [h4, h5, h6, h7, h8]
theorem plain_ev (x : Nd) (hn : x.f0 = 2 → regex_name.f x.f3 = some (nameB x.f3.data.toList)) : Evt (fun k => regex_plain.f k x.f0 x.f1 x.f2 x.f3 x.f4) (plainB x) := by
  obtain ⟨a, b, c, d, ks⟩ := x
  dsimp only at hn ⊢
  have hd : (d.toList == ([] : List UInt8)) = decide (d.data.toList = []) := by
    rw [toList_data]
    by_cases h : d.data.toList = []
    · rw [h]; rfl
    · rw [decide_eq_false h]; exact beq_eq_false_iff_ne.2 h
  unfold regex_plain.f plainB
  dsimp only
  by_cases h1 : a < 1
  · simp only [if_pos h1]
    rw [decide_eq_false (show ¬ (1 ≤ a) by omega)]
    simp only [Bool.false_and]
    exact Evt.succ (g := fun _ => some false) (fun k => by simp [regex_plain.j0]) (Evt.pure _)
  · simp only [if_neg h1]
    rw [decide_eq_true (show 1 ≤ a by omega)]
    by_cases h8 : a > 8
    · simp only [if_pos h8]
      rw [decide_eq_false (show ¬ (a ≤ 8) by omega)]
      simp only [Bool.true_and, Bool.false_and]
      exact Evt.succ (g := fun _ => some false) (fun k => by simp [regex_plain.j0]) (Evt.pure _)
    · simp only [if_neg h8]
      rw [decide_eq_true (show a ≤ 8 by omega)]
      simp only [Bool.true_and]
      refine Evt.bind (kids_ev a) ?_
      by_cases hk : ks.length = kidsK a
      · have e : ((ks.length : Int) != (kidsK a : Int)) = false := by simp [hk]
        rw [decide_eq_true hk]
        simp only [e, Bool.true_and]
        by_cases ha : a = 1
        · subst ha
          simp only [if_pos rfl, if_neg (show ¬ ((1 : Int) = 2) by decide)]
          by_cases hc : c.length ≤ 200
          · have hi := Is_ev c (by omega)
            refine Evt.succ (g := fun k => (uniset_Is.f k c).bind fun t => (if t = true then some (d.toList == ([] : List UInt8)) else some false)) (fun k => by simp [regex_plain.j0, show ¬ ((c.length : Int) > 200) by omega]) ?_
            refine Evt.bind hi ?_
            rw [decide_eq_true hc, hd]
            cases isG none c
            · simp; exact Evt.pure _
            · simp; exact Evt.pure _
          · rw [decide_eq_false hc]
            simp only [Bool.false_and]
            exact Evt.succ (g := fun _ => some false) (fun k => by simp [regex_plain.j0, show ((c.length : Int) > 200) by omega]) (Evt.pure _)
        · simp only [if_neg ha]
          by_cases hc : c.length = 0
          · rw [decide_eq_true hc]
            simp only [Bool.true_and]
            by_cases h2 : a = 2
            · subst h2
              rw [if_pos rfl]
              refine Evt.succ (g := fun _ => some (nameB d.data.toList)) (fun k => ?_) (Evt.pure _)
              simp [regex_plain.j0, hc, hn rfl]
              cases nameB d.data.toList <;> rfl
            · rw [if_neg h2, ← hd]
              exact Evt.succ (g := fun _ => some (d.toList == ([] : List UInt8))) (fun k => by simp [regex_plain.j0, ha, h2, hc]) (Evt.pure _)
          · rw [decide_eq_false hc]
            simp only [Bool.false_and]
            exact Evt.succ (g := fun _ => some false) (fun k => by simp [regex_plain.j0, ha, show 0 < c.length by omega]) (Evt.pure _)
      · have e : ((ks.length : Int) != (kidsK a : Int)) = true := by simp; omega
        rw [decide_eq_false hk]
        simp only [e, Bool.false_and]
        exact Evt.succ (g := fun _ => some false) (fun k => by simp [regex_plain.j0]) (Evt.pure _)
theorem plain_calls (w : World) (x : Nd) (hn : x.f0 = 2 → regex_name.f x.f3 = some (nameB x.f3.data.toList)) {A2 A4 : Option Addr} {c2 c4 : Nat} (hl2 : x.f2.length ≤ c2) (hl4 : x.f4.length ≤ c4) (h2 : Kd.C k58 w A2 x.f2.length x.f2) (h4 : Kd.C k26 w A4 x.f4.length x.f4) :
    Calls Tryz.prog 47 #[.agg #[.int .i64 x.f0, .int .i64 x.f1, .slice A2 x.f2.length c2, .string x.f3, .slice A4 x.f4.length c4]] w fun e w' => e = .returned (.bool (plainB x)) ∧ Below w.heap.size w w' := by
  obtain ⟨k, hk⟩ := (plain_ev x hn).get
  exact regex_plain.calls k x.f0 x.f1 A2 c2 x.f2 x.f3 A4 c4 x.f4 _ w h2 hl2 h4 hl4 hk
theorem isN_all {e : Nd} (hl : ((preN e).take 401).length ≤ 400) (h : ∀ (j : Nat) (x : Nd), ((preN e).take 401)[j]? = some x → plainB x = true) : isN e = true := by
  have hl' : (preN e).length ≤ 400 := by rw [List.length_take] at hl; omega
  rw [isN_iff]
  refine ⟨hl', fun x hx => ?_⟩
  rw [List.take_of_length_le (by omega)] at h
  obtain ⟨j, hj⟩ := List.mem_iff_getElem?.1 hx
  exact h j x hj
theorem isN_not {e : Nd} {j : Nat} {x : Nd} (hx : ((preN e).take 401)[j]? = some x) (h : 400 ≤ j ∨ plainB x = false) : isN e = false := by
  cases hi : isN e with
  | false => rfl
  | true =>
    obtain ⟨h1, h2⟩ := isN_iff.1 hi
    have hj := (List.getElem?_eq_some_iff.1 hx).1
    rw [List.length_take] at hj
    rcases h with h | h
    · omega
    · rw [List.getElem?_take_of_lt (by omega)] at hx
      rw [h2 x (List.mem_iff_getElem?.2 ⟨j, hx⟩)] at h
      cases h
set_option maxHeartbeats 1000000 in
theorem rxall_calls (a b : Int) (s : ByteArray) (A2 A4 : Option Addr) (n2 n4 c2 c4 : Nat) (w : World) : Calls Tryz.prog 46 #[.agg #[.int .i64 a, .int .i64 b, .slice A2 n2 c2, .string s, .slice A4 n4 c4], .int .i64 401] w fun e w' => e = .returned (.func (.func 68) #[] #[.pointer (some ⟨w.heap.size, 0, none⟩), .pointer (some ⟨w.heap.size + 1, 0, none⟩)]) ∧ w' = (w.alloc (.cells #[.int .i64 a, .int .i64 b, .slice A2 n2 c2, .string s, .slice A4 n4 c4] 26)).alloc (.cells #[.int .i64 401] 3) := by
  go_enter Tryz.func46, Tryz.ntmps46
  go_wp2
  go_ret
  exact ⟨rfl, rfl⟩
theorem results_c1 {fn : Func} {p : Tmp} {t1 : TypeId} (h : fn.results = #[.cell p t1]) (tmps : Array Value) (w : World) (a1 : Addr) (v1 : Value) (hp : tmps.getD p undef = .pointer (some a1)) (h1 : (loadVar t1 a1).run Tryz.prog w = .ok v1 w) :
    (results fn tmps).run Tryz.prog w = .ok v1 w := by
  have hp' : tmps[p]?.getD undef = .pointer (some a1) := by simpa using hp
  simp [results, h, hp', asAddr, h1]
structure IsAt (w : World) (i : Nat) (W : World) : Prop where
  r : W.heap[w.heap.size + 1]? = some (.cells #[.bool false] 4 (0, 0))
  n : W.heap[w.heap.size + 2]? = some (.cells #[.int .i64 i] 3 (0, 0))
  below : Below w.heap.size w W
  size : w.heap.size + 5 ≤ W.heap.size
structure IsNo (w W : World) : Prop where
  r : W.heap[w.heap.size + 1]? = some (.cells #[.bool false] 4 (0, 0))
  below : Below w.heap.size w W
theorem IsAt.turn {w A B : World} {i : Nat} (h : IsAt w i A) (ht : Below (w.heap.size + 5) A B) : IsAt w i B :=
  ⟨(ht.block _ (by omega)).trans h.r, (ht.block _ (by omega)).trans h.n, h.below.trans (ht.mono (by omega)), Nat.le_trans h.size ht.size⟩
def isK (w : World) (k : Nat) (o : Obj) : Prop := k < w.heap.size ∨ k = w.heap.size + 4 ∨ rowishT [3, 4] o = false
theorem isK_loop (w : World) (k : Nat) (o : Obj) (h : loopish o = true) : isK w k o := by
  refine .inr (.inr ?_)
  cases o <;> first | rfl | (simp [loopish] at h)
theorem isK_res {w W : World} {v u : Value} (h : W.heap[w.heap.size + 1]? = some (.cells #[u] 4 (0, 0))) : KpP (isK w) W (W.setCell ⟨w.heap.size + 1, 0, none⟩ v) := by
  refine KpP.setCell (p := ⟨w.heap.size + 1, 0, none⟩) fun o ho hp => ?_
  rw [show (⟨w.heap.size + 1, 0, none⟩ : Addr).block = w.heap.size + 1 from rfl] at ho hp
  rw [h] at ho; cases ho
  rcases hp with h | h | h
  · omega
  · omega
  · cases h
theorem isno_of {w W : World} {u : Value} (h : W.heap[w.heap.size + 1]? = some (.cells #[u] 4 (0, 0))) (hb : Below w.heap.size w W) : IsNo w (W.setCell ⟨w.heap.size + 1, 0, none⟩ (.bool false)) :=
  ⟨heap_set h 0 (.bool false), hb.setCell (p := ⟨w.heap.size + 1, 0, none⟩) (by show _ ≤ w.heap.size + 1; omega) _⟩
theorem is_end {n : Nat} {w W : World} {b : Bool} {tmps : Array Value} {D : Nat} {B : Nat} (hp : tmps.getD 2 undef = .pointer (some ⟨w.heap.size + 1, 0, none⟩)) (hr : W.heap[w.heap.size + 1]? = some (.cells #[.bool b] 4 (0, 0))) (hb : Below w.heap.size w W) (hD : w.heap.size + 5 ≤ D) (hK : W.heap[D]? = some (.deferred (some []))) :
    ∃ v, (results Tryz.f24 tmps).run Tryz.prog (W.putObj D (.deferred none)) = .ok v (W.putObj D (.deferred none)) ∧ (Ending.returned v = .returned (.bool b) ∧ Below w.heap.size w (W.putObj D (.deferred none))) := by
  have ht : TurnFrom (w.heap.size + 5) W (W.putObj D (.deferred none)) := TurnFrom.putObj _ hD hK rfl
  have z2 := ht.cell ((blk_cell hr 0).trans rfl)
  exact ⟨_, results_c1 rfl _ _ ⟨w.heap.size + 1, 0, none⟩ _ hp (loadVar_one _ _ _ _ z2 (by first | exact Tryz.isAgg4 _ | (simp [isAgg, go_sem, Tryz.isAgg4]; done) | (simp [isAgg, go_sem, Tryz.underlying4]; done))), rfl, ht.below hb (by omega)⟩
set_option maxRecDepth 100000 in
set_option maxHeartbeats 8000000 in
theorem is_in (n : Nat) (hn : 3 ≤ n) (e : Nd) (he : ∀ x ∈ preN e, x.f0 = 2 → regex_name.f x.f3 = some (nameB x.f3.data.toList)) {A2 A4 : Option Addr} {c2 c4 : Nat} (w : World) (hl2 : e.f2.length ≤ c2) (hl4 : e.f4.length ≤ c4) (h2 : Kd.C k58 w A2 e.f2.length e.f2) (h4 : Kd.C k26 w A4 e.f4.length e.f4) :
    CallsIn Fence.wide n Tryz.prog 24 #[.agg #[.int .i64 e.f0, .int .i64 e.f1, .slice A2 e.f2.length c2, .string e.f3, .slice A4 e.f4.length c4]] w fun q w' => q = .returned (.bool (isN e)) ∧ Below w.heap.size w w' := by
  have hn1 : 1 ≤ n := by omega
  refine callsIn_of_wp_marks Tryz.func24 rfl trivial ?_ rfl
  simp only [Tryz.ntmps24, List.size_toArray, List.length_cons, List.length_nil, Nat.reduceAdd, Nat.reduceSub, Array.replicate_succ, Array.replicate_zero, List.push_toArray, List.append_toArray, List.nil_append, List.cons_append]
  have hta := fun W => callsIn_wide (n := n - 1) |>.2 (rxall_calls e.f0 e.f1 e.f3 A2 A4 e.f2.length e.f4.length c2 c4 W)
  have HC := Lib.hid (And.intro h2 h4)
  have HE := Lib.hid he
  clear h2 h4 he
  gi_wp2_with (refine ⟨trivial, ?_⟩; gi_at_call 46; refine (hta _).mono ?_; rintro e' w2 ⟨rfl, rfl⟩)
  obtain ⟨a1, e1⟩ : ∃ a1, w.alloc (.cells #[.int .i64 e.f0, .int .i64 e.f1, .slice A2 e.f2.length c2, .string e.f3, .slice A4 e.f4.length c4] 26) = a1 := ⟨_, rfl⟩
  obtain ⟨a2, e2⟩ : ∃ a2, a1.alloc (.cells #[.bool false] 4) = a2 := ⟨_, rfl⟩
  obtain ⟨a3, e3⟩ : ∃ a3, a2.alloc (.cells #[.int .i64 0] 3) = a3 := ⟨_, rfl⟩
  obtain ⟨a4, e4⟩ : ∃ a4, a3.alloc (.cells #[.int .i64 e.f0, .int .i64 e.f1, .slice A2 e.f2.length c2, .string e.f3, .slice A4 e.f4.length c4] 26) = a4 := ⟨_, rfl⟩
  obtain ⟨w5, e5⟩ : ∃ w5, a4.alloc (.cells #[.int .i64 401] 3) = w5 := ⟨_, rfl⟩
  rw [e1, e2, e3, e4, e5]
  have al : ∀ {W W' : World} {o : Obj}, W.alloc o = W' → W'.heap[W.heap.size]? = some o ∧ W'.heap.size = W.heap.size + 1 ∧ Below W.heap.size W W' := by
    rintro W W' o rfl
    exact ⟨heap_alloc_new W o, by simp, (Below.refl _ W).alloc (Nat.le_refl _) _⟩
  obtain ⟨n1, s1, b1⟩ := al e1
  obtain ⟨n2, s2, b2⟩ := al e2
  obtain ⟨n3, s3, b3⟩ := al e3
  obtain ⟨n4, s4, b4⟩ := al e4
  obtain ⟨n5, s5, b5⟩ := al e5
  have z2 : a2.heap.size = w.heap.size + 2 := by omega
  have z3 : a3.heap.size = w.heap.size + 3 := by omega
  have z4 : a4.heap.size = w.heap.size + 4 := by omega
  have z5 : w5.heap.size = w.heap.size + 5 := by omega
  rw [s1] at n2
  rw [z2] at n3
  rw [z3] at n4
  rw [z4] at n5
  have hb5 : Below w.heap.size w w5 := b1.trans ((b2.mono (by omega)).trans ((b3.mono (by omega)).trans ((b4.mono (by omega)).trans (b5.mono (by omega)))))
  have hE5 : w5.heap[w.heap.size + 3]? = some (.cells #[.int .i64 e.f0, .int .i64 e.f1, .slice A2 e.f2.length c2, .string e.f3, .slice A4 e.f4.length c4] 26 (0, 0)) := (b5.block _ (by omega)).trans n4
  have hI5 : IsAt w 0 w5 := ⟨(b5.block _ (by omega)).trans ((b4.block _ (by omega)).trans ((b3.block _ (by omega)).trans n2)), (b5.block _ (by omega)).trans ((b4.block _ (by omega)).trans n3), hb5, by omega⟩
  have HI5 := Lib.hid hI5
  have hIt : ∀ r, IterR (isK w) Tryz.prog 68 #[.pointer (some ⟨w.heap.size + 1 + 1 + 1, 0, none⟩), .pointer (some ⟨w.heap.size + 1 + 1 + 1 + 1, 0, none⟩)] (EncN w) ((preN e).take 401) ((w5.alloc (.deferred (some []))).alloc (.loop r)) := fun r => by
    have hbb : Below w5.heap.size w5 ((w5.alloc (.deferred (some []))).alloc (.loop r)) := ((Below.refl _ w5).alloc (Nat.le_refl _) _).alloc (by simp) _
    exact all1_iter (isK w) w (fun k c f => .inr (.inr rfl)) (fun k o hk => .inl hk) _ _ (fun o => .inr (.inl rfl)) e A2 A4 c2 c4 hl2 hl4 HC.out.1 HC.out.2 _ (Old.of_below (hb5.trans (hbb.mono (by omega)))) (by have := hbb.size; omega) ((hbb.block _ (by omega)).trans hE5) ((hbb.block _ (by omega)).trans n5)
  clear e1 e2 e3 e4 e5 n1 n2 n3 n4 n5 s1 s2 s3 s4 s5 b1 b2 b3 b4 b5 hE5 hI5 z2 z3 z4
  generalize hxs : (preN e).take 401 = xs at *
  have HXS := Lib.hid hxs
  have hxl : xs.length ≤ 401 := by rw [← hxs, List.length_take]; omega
  clear hxs
  refine range_turn3 (isK_loop w) (Enc := EncN w) (gf := 68) (lb := #[.pointer (some ⟨w.heap.size + 1 + 1 + 1, 0, none⟩), .pointer (some ⟨w.heap.size + 1 + 1 + 1 + 1, 0, none⟩)]) rfl (enters_of Tryz.func68 (by kernel_rfl) rfl) (fun x v ⟨_, _, _, _, h, _⟩ => by rw [h]; rfl) hIt
    (fun i W' => IsAt w i W' ∧ i ≤ 400 ∧ ∀ j x, j < i → xs[j]? = some x → plainB x = true) (fun W' => IsNo w W' ∧ isN e = false)
    (fun i A C q ht => ⟨q.1.turn (z5 ▸ ht), q.2⟩) (fun A C q ht => ⟨⟨(ht.block _ (by omega)).trans q.1.r, q.1.below.trans (ht.mono (by omega))⟩, q.2⟩) ⟨HI5.out, by omega, fun j x hj => by omega⟩
    (fun i x a' W' => (IsAt w i W' ∧ i ≤ 400 ∧ ∀ j x, j < i → xs[j]? = some x → plainB x = true) ∧ ∃ B4 X2 y2 X4 y4, W'.heap[B4]? = some (.cells #[.int .i64 x.f0, .int .i64 x.f1, .slice X2 x.f2.length y2, .string x.f3, .slice X4 x.f4.length y4] 26 (0, 0)) ∧ x.f2.length ≤ y2 ∧ x.f4.length ≤ y4 ∧ Kd.C k58 w X2 x.f2.length x.f2 ∧ Kd.C k26 w X4 x.f4.length x.f4 ∧ a' = { tmps := #[.agg #[.int .i64 e.f0, .int .i64 e.f1, .slice A2 e.f2.length c2, .string e.f3, .slice A4 e.f4.length c4], .pointer (some ⟨w.heap.size, 0, none⟩), .pointer (some ⟨w.heap.size + 1, 0, none⟩), .pointer (some ⟨w.heap.size + 1 + 1, 0, none⟩), .pointer (some ⟨B4, 0, none⟩), .agg #[.int .i64 e.f0, .int .i64 e.f1, .slice A2 e.f2.length c2, .string e.f3, .slice A4 e.f4.length c4], .func (.func 68) #[] #[.pointer (some ⟨w.heap.size + 1 + 1 + 1, 0, none⟩), .pointer (some ⟨w.heap.size + 1 + 1 + 1 + 1, 0, none⟩)], .agg #[.int .i64 x.f0, .int .i64 x.f1, .slice X2 x.f2.length y2, .string x.f3, .slice X4 x.f4.length y4], undef, undef, undef, undef, undef, undef, undef, undef, undef], defers := [] })
    (fun i x a' A C ⟨q, B4, X2, y2, X4, y4, hb, q2⟩ ht => ⟨⟨⟨ht.same _ _ q.1.r (.inr rfl), ht.same _ _ q.1.n (.inr rfl), ht.below q.1.below (by omega), Nat.le_trans q.1.size ht.size⟩, q.2⟩, B4, X2, y2, X4, y4, ht.same B4 (.cells #[.int .i64 x.f0, .int .i64 x.f1, .slice X2 x.f2.length y2, .string x.f3, .slice X4 x.f4.length y4] 26 (0, 0)) hb (.inr rfl), q2⟩)
    ?assign ?body ?done ?stop
  case assign =>
    rintro l' i x v W' K hx1 ⟨X2, y2, X4, y4, rfl, hy2, hy4, hX2, hX4⟩ hj hK
    have HX := Lib.hid (And.intro hX2 hX4)
    clear hX2 hX4
    gi_wp2
    have hb := (Below.refl _ W').alloc (Nat.le_refl _) (.cells #[.int .i64 x.f0, .int .i64 x.f1, .slice X2 x.f2.length y2, .string x.f3, .slice X4 x.f4.length y4] 26)
    exact hK _ _ (KpP.of_below hb) ⟨⟨hj.1.turn (hb.mono hj.1.size), hj.2⟩, W'.heap.size, X2, y2, X4, y4, heap_alloc_new W' _, hy2, hy4, HX.out.1, HX.out.2, rfl⟩
  case body =>
    rintro l' i x a' W' hx1 ⟨⟨hj, hi, hall⟩, B4, X2, y2, X4, y4, hb4, hy2, hy4, hX2, hX4, rfl⟩
    have hne : ¬ (B4 = w.heap.size + 1 + 1) := fun h => by subst h; rw [hj.n] at hb4; simp at hb4
    have hne2 : ¬ (w.heap.size + 1 + 1 = B4) := fun h => hne h.symm
    have cn : W'.cell? ⟨w.heap.size + 1 + 1, 0, none⟩ = some (.int .i64 i) := (blk_cell hj.n 0).trans rfl
    have fn0 : W'.frozen? ⟨w.heap.size + 1 + 1, 0, none⟩ = false := blk_frozen hj.n 0
    obtain ⟨W1, hW1⟩ : ∃ W1, W'.setCell ⟨w.heap.size + 1 + 1, 0, none⟩ (.int .i64 ((i : Int) + 1)) = W1 := ⟨_, rfl⟩
    have hn1 : W1.heap[w.heap.size + 2]? = some (.cells #[.int .i64 ((i : Int) + 1)] 3 (0, 0)) := by rw [← hW1]; exact heap_set hj.n 0 _
    have hr1 : W1.heap[w.heap.size + 1]? = some (.cells #[.bool false] 4 (0, 0)) := by
      rw [← hW1]; exact (Below.heap_setCell W' ⟨w.heap.size + 1 + 1, 0, none⟩ _ (w.heap.size + 1) (by show w.heap.size + 1 ≠ w.heap.size + 1 + 1; omega)).trans hj.r
    have hx1b : W1.heap[B4]? = some (.cells #[.int .i64 x.f0, .int .i64 x.f1, .slice X2 x.f2.length y2, .string x.f3, .slice X4 x.f4.length y4] 26 (0, 0)) := by
      rw [← hW1]; exact (Below.heap_setCell W' ⟨w.heap.size + 1 + 1, 0, none⟩ _ B4 hne).trans hb4
    have hb1 : Below w.heap.size w W1 := by rw [← hW1]; exact hj.below.setCell (p := ⟨w.heap.size + 1 + 1, 0, none⟩) (by show _ ≤ w.heap.size + 1 + 1; omega) _
    have hk1 : KpP (isK w) W' W1 := by
      rw [← hW1]
      refine KpP.setCell (p := ⟨w.heap.size + 1 + 1, 0, none⟩) fun o ho hp => ?_
      rw [show (⟨w.heap.size + 1 + 1, 0, none⟩ : Addr).block = w.heap.size + 2 from rfl] at ho hp
      rw [hj.n] at ho; cases ho
      rcases hp with h | h | h
      · omega
      · omega
      · cases h
    have hs1 : w.heap.size + 5 ≤ W1.heap.size := by rw [← hW1]; simpa using hj.size
    have c1 : W1.cell? ⟨w.heap.size + 1 + 1, 0, none⟩ = some (.int .i64 ((i : Int) + 1)) := (blk_cell hn1 0).trans rfl
    have d0 := (blk_cell hx1b 0).trans rfl
    have d1 := (blk_cell hx1b 1).trans rfl
    have d2 := (blk_cell hx1b 2).trans rfl
    have d3 := (blk_cell hx1b 3).trans rfl
    have d4 := (blk_cell hx1b 4).trans rfl
    have HX := Lib.hid (And.intro hX2 hX4)
    have HN1 := Lib.hid hn1
    have HR1 := Lib.hid hr1
    have HB1 := Lib.hid hb1
    have HK1 := Lib.hid hk1
    have HALL := Lib.hid hall
    have HX1 := Lib.hid hx1
    have fr1 : W1.frozen? ⟨w.heap.size + 1, 0, none⟩ = false := blk_frozen hr1 0
    have cr1 : W1.cell? ⟨w.heap.size + 1, 0, none⟩ = some (.bool false) := (blk_cell hr1 0).trans rfl
    clear hX2 hX4 hn1 hr1 hx1b hb1 hk1 hall hx1 hb4 hj hIt
    by_cases h400 : i = 400
    · have HGE := Lib.hid (show 400 ≤ i by omega)
      clear h400
      have b0 : decide ((i : Int) + 1 > 400) = true := decide_eq_true (by have := HGE.out; omega)
      have b1 : decide ((400 : Int) < (i : Int) + 1) = true := decide_eq_true (by have := HGE.out; omega)
      gi_wp2_with fail
      refine ⟨trivial, ?_⟩
      gi_wp2
      exact ⟨(HK1.out.trans (isK_res HR1.out)).e _, isno_of HR1.out HB1.out, isN_not (by rw [HXS.out]; exact HX1.out) (.inl HGE.out)⟩
    · have H1 := Lib.hid (callsIn_wide (n := 5 - 1) |>.2 (plain_calls W1 x (HE.out x (List.mem_of_mem_take (by rw [HXS.out]; exact List.mem_of_getElem? HX1.out))) hy2 hy4 (Kd.C_below HX.out.1 HB1.out) (Kd.C_below HX.out.2 HB1.out)))
      have b0 : decide ((i : Int) + 1 > 400) = false := decide_eq_false (by omega)
      have b1 : decide ((400 : Int) < (i : Int) + 1) = false := decide_eq_false (by omega)
      gi_wp2_with fail
      refine ⟨trivial, ?_⟩
      gi_at_call 47
      refine H1.out.mono ?_
      rintro e' w2 ⟨rfl, hb2⟩
      have HB2 := Lib.hid hb2
      clear hb2 H1
      cases hp : plainB x with
      | true =>
        have HP := Lib.hid hp
        clear hp
        gi_wp2
        refine ⟨HK1.out.trans (KpP.of_below HB2.out), ⟨(HB2.out.block _ (by omega)).trans HR1.out, (HB2.out.block _ (by omega)).trans HN1.out, HB1.out.trans (HB2.out.mono (by omega)), Nat.le_trans hs1 HB2.out.size⟩, by omega, fun j y hj hy => ?_⟩
        rcases Nat.lt_or_ge j i with h | h
        · exact HALL.out j y h hy
        · obtain rfl : j = i := by omega
          rw [HX1.out] at hy
          cases hy
          exact HP.out
      | false =>
        have HP := Lib.hid hp
        have cr2 := cell_b HB2.out cr1
        have fr2 : w2.frozen? ⟨w.heap.size + 1, 0, none⟩ = false := blk_frozen ((HB2.out.block _ (by have := HR1.out; exact blk_lt this)).trans HR1.out) 0
        have hr2 := (HB2.out.block _ (by omega)).trans HR1.out
        have HR2 := Lib.hid hr2
        clear hp hr2
        gi_wp2
        exact ⟨(HK1.out.trans ((KpP.of_below HB2.out).trans (isK_res HR2.out))).e _, isno_of HR2.out (HB1.out.trans (HB2.out.mono (by omega))), isN_not (by rw [HXS.out]; exact HX1.out) (.inr HP.out)⟩
  case done =>
    rintro D W' hD ⟨hj, hi, hall⟩ hK
    have hY := Lib.hid (isN_all (e := e) (by rw [HXS.out]; exact hi) (fun j x hx => by rw [HXS.out] at hx; exact hall j x (List.getElem?_eq_some_iff.1 hx).1 hx))
    have HJ := Lib.hid hj
    have HKD := Lib.hid hK
    have cr : W'.cell? ⟨w.heap.size + 1, 0, none⟩ = some (.bool false) := (blk_cell hj.r 0).trans rfl
    have fr : W'.frozen? ⟨w.heap.size + 1, 0, none⟩ = false := blk_frozen hj.r 0
    clear hj hi hall hK hIt
    gi_wp2
    have hKD : (W'.setCell ⟨w.heap.size + 1, 0, none⟩ (.bool true)).heap[D]? = some (.deferred (some [])) := (Below.heap_setCell W' ⟨w.heap.size + 1, 0, none⟩ _ D (by show D ≠ w.heap.size + 1; omega)).trans HKD.out
    refine ⟨by simp, .inl ⟨_, _, rfl, run_takeDeferred hKD, ?_⟩⟩
    rw [hY.out]
    exact is_end (n := n) (B := 0) rfl (heap_set HJ.out.r 0 (.bool true)) (HJ.out.below.setCell (p := ⟨w.heap.size + 1, 0, none⟩) (by show _ ≤ w.heap.size + 1; omega) _) (by omega) hKD
  case stop =>
    rintro D W' hD ⟨hj, hno⟩ hK
    have HJ := Lib.hid hj
    have HKD := Lib.hid hK
    have HNO := Lib.hid hno
    clear hj hno hK hIt
    gi_wp2
    refine ⟨by simp, .inl ⟨_, _, rfl, run_takeDeferred HKD.out, ?_⟩⟩
    rw [HNO.out]
    exact is_end (n := n) (B := 0) rfl HJ.out.r HJ.out.below (by omega) HKD.out
end Go.Proofs.YtfinjenkgpndlaaGreatDoor.PA

namespace Go.Proofs
open Go.Shelf
def Tryz.sortStr_ren : Go.Shelf.Ren := ⟨fun | 6 => 50 | 8 => 74 | 9 => 73 | 19 => 102 | 20 => 103 | 21 => 93 | 22 => 94 | 23 => 95 | 24 => 96 | 25 => 97 | 26 => 98 | 27 => 99 | 28 => 100 | 29 => 101 | 36 => 126 | 31 => 127 | 32 => 128 | 37 => 129 | 38 => 130 | 39 => 131 | 41 => 147 | n => n, fun | 27 => 45 | 29 => 9 | 3 => 3 | 32 => 34 | 26 => 45 | 0 => 0 | 44 => 147 | 46 => 33 | 4 => 4 | 36 => 139 | 35 => 138 | 41 => 144 | 5 => 5 | 9 => 9 | 53 => 153 | 57 => 156 | 63 => 167 | 64 => 168 | n => n, fun | n => n⟩
theorem Tryz.sortStr : Go.Proofs.SlLaysM.n6 Tryz.prog Tryz.sortStr_ren := {
  mixed := by kernel_rfl
  f6 := ⟨Tryz.f50.name, by decide, Tryz.func50.trans (congrArg some (by kernel_rfl))⟩
  f8 := Tryz.func74.trans (congrArg some (by kernel_rfl))
  f9 := ⟨Tryz.f73.name, by decide, Tryz.func73.trans (congrArg some (by kernel_rfl))⟩
  f19 := Tryz.func102.trans (congrArg some (by kernel_rfl))
  f20 := Tryz.func103.trans (congrArg some (by kernel_rfl))
  f21 := ⟨Tryz.f93.name, by decide, Tryz.func93.trans (congrArg some (by kernel_rfl))⟩
  f22 := ⟨Tryz.f94.name, by decide, Tryz.func94.trans (congrArg some (by kernel_rfl))⟩
  f23 := ⟨Tryz.f95.name, by decide, Tryz.func95.trans (congrArg some (by kernel_rfl))⟩
  f24 := ⟨Tryz.f96.name, by decide, Tryz.func96.trans (congrArg some (by kernel_rfl))⟩
  f25 := ⟨Tryz.f97.name, by decide, Tryz.func97.trans (congrArg some (by kernel_rfl))⟩
  f26 := ⟨Tryz.f98.name, by decide, Tryz.func98.trans (congrArg some (by kernel_rfl))⟩
  f27 := ⟨Tryz.f99.name, by decide, Tryz.func99.trans (congrArg some (by kernel_rfl))⟩
  f28 := ⟨Tryz.f100.name, by decide, Tryz.func100.trans (congrArg some (by kernel_rfl))⟩
  f29 := ⟨Tryz.f101.name, by decide, Tryz.func101.trans (congrArg some (by kernel_rfl))⟩
  f31 := Tryz.func127.trans (congrArg some (by kernel_rfl))
  f32 := Tryz.func128.trans (congrArg some (by kernel_rfl))
  f36 := ⟨Tryz.f126.name, by decide, Tryz.func126.trans (congrArg some (by kernel_rfl))⟩
  f37 := ⟨Tryz.f129.name, by decide, Tryz.func129.trans (congrArg some (by kernel_rfl))⟩
  f38 := ⟨Tryz.f130.name, by decide, Tryz.func130.trans (congrArg some (by kernel_rfl))⟩
  f39 := ⟨Tryz.f131.name, by decide, Tryz.func131.trans (congrArg some (by kernel_rfl))⟩
  f41 := ⟨Tryz.f147.name, by decide, Tryz.func147.trans (congrArg some (by kernel_rfl))⟩
  t0 := Tryz.underlying0
  a0 := Tryz.isAgg0
  z0 := Tryz.sizeOf0
  v0 := Tryz.zeroValue0
  t3 := Tryz.underlying3
  a3 := Tryz.isAgg3
  z3 := Tryz.sizeOf3
  v3 := Tryz.zeroValue3
  t4 := Tryz.underlying4
  a4 := Tryz.isAgg4
  z4 := Tryz.sizeOf4
  v4 := Tryz.zeroValue4
  t5 := Tryz.underlying5
  a5 := Tryz.isAgg5
  z5 := Tryz.sizeOf5
  v5 := Tryz.zeroValue5
  t9 := Tryz.underlying9
  a9 := Tryz.isAgg9
  z9 := Tryz.sizeOf9
  v9 := Tryz.zeroValue9
  t26 := Tryz.underlying45
  a26 := Tryz.isAgg45
  z26 := Tryz.sizeOf45
  v26 := Tryz.zeroValue45
  t27 := Tryz.underlying45
  a27 := Tryz.isAgg45
  z27 := Tryz.sizeOf45
  v27 := Tryz.zeroValue45
  t29 := Tryz.underlying9
  a29 := Tryz.isAgg9
  z29 := Tryz.sizeOf9
  v29 := Tryz.zeroValue9
  t32 := Tryz.underlying34
  a32 := Tryz.isAgg34
  z32 := Tryz.sizeOf34
  v32 := Tryz.zeroValue34
  t35 := Tryz.underlying138
  a35 := Tryz.isAgg138
  z35 := Tryz.sizeOf138
  v35 := Tryz.zeroValue138
  t36 := Tryz.underlying139
  a36 := Tryz.isAgg139
  z36 := Tryz.sizeOf139
  v36 := Tryz.zeroValue139
  t41 := Tryz.underlying144
  a41 := Tryz.isAgg144
  z41 := Tryz.sizeOf144
  v41 := Tryz.zeroValue144
  t44 := Tryz.underlying147
  a44 := Tryz.isAgg147
  z44 := Tryz.sizeOf147
  v44 := Tryz.zeroValue147
  t46 := Tryz.underlying33
  a46 := Tryz.isAgg33
  z46 := Tryz.sizeOf33
  v46 := Tryz.zeroValue33
  t53 := Tryz.underlying153
  a53 := Tryz.isAgg153
  z53 := Tryz.sizeOf153
  v53 := Tryz.zeroValue153
  t57 := Tryz.underlying156
  a57 := Tryz.isAgg156
  z57 := Tryz.sizeOf156
  v57 := Tryz.zeroValue156
  t63 := Tryz.underlying167
  a63 := Tryz.isAgg167
  z63 := Tryz.sizeOf167
  v63 := Tryz.zeroValue167
  t64 := Tryz.underlying168
  a64 := Tryz.isAgg168
  z64 := Tryz.sizeOf168
  v64 := Tryz.zeroValue168 }
end Go.Proofs

namespace Go.Proofs.YtfinjenkgpndlaaGreatDoor.PA
open Go.RowKit Go.Shelf Go.Proofs.YtfinjenkgpndlaaGreatDoorW.PrintWords Go.Proofs.YtfinjenkgpndlaaGreatDoorW.PrintLast Go.Proofs.YtfinjenkgpndlaaGreatDoorW.PrintMore
attribute [local go_sem] Oper.semAt_some
set_option linter.unusedVariables false
set_option linter.unusedSimpArgs false

set_option maxRecDepth 100000 in
set_option maxHeartbeats 4000000 in
theorem names1_calls (bo bw : Nat) : ∀ e : Nd, noV e = true → ∀ (w : World) (A2 A4 : Option Addr) (c2 c4 : Nat), e.f2.length ≤ c2 → e.f4.length ≤ c4 → Kd.C k58 w A2 e.f2.length e.f2 → Kd.C k26 w A4 e.f4.length e.f4 →
    w.heap[bw]? = some (.cells #[.func (.func 48) #[] #[.pointer (some ⟨bo, 0, none⟩), .pointer (some ⟨bw, 0, none⟩)]] 91 (0, 0)) →
    Calls Tryz.prog 48 #[.agg #[.int .i64 e.f0, .int .i64 e.f1, .slice A2 e.f2.length c2, .string e.f3, .slice A4 e.f4.length c4], .pointer (some ⟨bo, 0, none⟩), .pointer (some ⟨bw, 0, none⟩)] w fun r w' => r = .returned (.tuple #[]) ∧ Below w.heap.size w w' := by
  refine nd_ind fun e ih hv w A2 A4 c2 c4 hl2 hl4 h2 h4 hbw => ?_
  have hk2 : (e.f0 == 2) = false := beq_eq_false_iff_ne.2 (noV_iff.1 hv e (pre_self e))
  have hkid : ∀ k ∈ e.f4, noV k = true := fun k hk => noV_iff.2 fun x hx => noV_iff.1 hv x (pre_kid hk hx)
  obtain ⟨w1, hw1⟩ : ∃ w1, w.alloc (.cells #[.int .i64 e.f0, .int .i64 e.f1, .slice A2 e.f2.length c2, .string e.f3, .slice A4 e.f4.length c4] 26) = w1 := ⟨_, rfl⟩
  have hb1 : Below w.heap.size w w1 := by rw [← hw1]; exact (Below.refl _ w).alloc (Nat.le_refl _) _
  have hn1 : w1.heap[w.heap.size]? = some (.cells #[.int .i64 e.f0, .int .i64 e.f1, .slice A2 e.f2.length c2, .string e.f3, .slice A4 e.f4.length c4] 26 (0, 0)) := by rw [← hw1]; exact heap_alloc_new w _
  have d0 := (blk_cell hn1 0).trans rfl
  have d4 := (blk_cell hn1 4).trans rfl
  have HIH := Lib.hid ih
  have HKID := Lib.hid hkid
  have HC := Lib.hid (And.intro h2 h4)
  have hmx : e.f4.length ≤ 9223372036854775807 := h4.2.1
  have HBW := Lib.hid hbw
  have HB1 := Lib.hid hb1
  clear ih hkid h2 h4 hbw hb1 hn1 hv
  go_enter Tryz.func48, Tryz.ntmps48
  go_wp2_with fail
  clear hw1 d0 d4
  go_loopw [24] (fun i wr => ∃ j : Nat, i = .int .i64 j ∧ j ≤ e.f4.length ∧ Hid (Below w.heap.size w wr)) (fun i _ => ((e.f4.length : Int) - intOf i).toNat)
  case atStart => exact ⟨0, rfl, Nat.zero_le _, HB1⟩
  case round =>
    obtain ⟨j, rfl, hj, hB⟩ := hrel
    by_cases hlt : j < e.f4.length
    · obtain ⟨b4, o4, rfl, hb4⟩ := C_plain HC.out.2 (by omega) (by decide)
      have hjj : e.f4[j]? = some e.f4[j] := List.getElem?_eq_getElem hlt
      obtain ⟨ks, hkl, hKk, hkc⟩ := C_cell HC.out.2 hjj
      obtain ⟨Y2, z2, Y4, z4, rfl, hz2, hY2, hz4, hY4⟩ := k26_open hKk
      have hkm : e.f4[j] ∈ e.f4 := List.getElem_mem hlt
      generalize e.f4[j] = kid at *
      have d0 : wr.cell? ⟨b4, o4 + j * 5, none⟩ = some (.int .i64 kid.f0) := cell_b hB.out (hkc 0 _ rfl)
      have d1 : wr.cell? ⟨b4, o4 + j * 5 + 1, none⟩ = some (.int .i64 kid.f1) := cell_b hB.out (hkc 1 _ rfl)
      have d2 : wr.cell? ⟨b4, o4 + j * 5 + 2, none⟩ = some (.slice Y2 kid.f2.length z2) := cell_b hB.out (hkc 2 _ rfl)
      have d3 : wr.cell? ⟨b4, o4 + j * 5 + 3, none⟩ = some (.string kid.f3) := cell_b hB.out (hkc 3 _ rfl)
      have d4 : wr.cell? ⟨b4, o4 + j * 5 + 4, none⟩ = some (.slice Y4 kid.f4.length z4) := cell_b hB.out (hkc 4 _ rfl)
      obtain ⟨w4, hw4⟩ : ∃ w4, wr.alloc (.cells #[.int .i64 kid.f0, .int .i64 kid.f1, .slice Y2 kid.f2.length z2, .string kid.f3, .slice Y4 kid.f4.length z4] 26) = w4 := ⟨_, rfl⟩
      have hB4 : Below w.heap.size w w4 := by rw [← hw4]; exact hB.out.alloc hB.out.size _
      have hN4 : w4.heap[wr.heap.size]? = some (.cells #[.int .i64 kid.f0, .int .i64 kid.f1, .slice Y2 kid.f2.length z2, .string kid.f3, .slice Y4 kid.f4.length z4] 26 (0, 0)) := by rw [← hw4]; exact heap_alloc_new wr _
      have hW4 := (hB4.block _ (blk_lt HBW.out)).trans HBW.out
      have cw := (blk_cell hW4 0).trans rfl
      have t0 := (blk_cell hN4 0).trans rfl
      have t1 := (blk_cell hN4 1).trans rfl
      have t2 := (blk_cell hN4 2).trans rfl
      have t3 := (blk_cell hN4 3).trans rfl
      have t4 := (blk_cell hN4 4).trans rfl
      have H1 := Lib.hid (HIH.out kid hkm (HKID.out kid hkm) w4 Y2 Y4 z2 z4 hz2 hz4 (Kd.C_below hY2 hB4) (Kd.C_below hY4 hB4) hW4)
      have HB4 := Lib.hid hB4
      clear hkl hKk hkc hY2 hY4 hB4 hN4 hW4 hkm hjj HIH HKID HC HBW
      go_wp2_with (go_at_call 48; refine H1.out.mono ?_; rintro e' w5 ⟨rfl, hb5⟩; have HB5 := Lib.hid hb5; clear hb5 H1)
      go_roundw
      case rel => exact ⟨j + 1, by first | rfl | (congr 1; omega), by omega, Lib.hid (HB4.out.trans (HB5.out.mono HB4.out.size))⟩
      case measure => simp [intOf]; omega
    · obtain rfl : j = e.f4.length := by omega
      go_wp2
      go_end0
      exact ⟨rfl, hB.out⟩
theorem run_store_func (P : Program) (w : World) (a : Addr) (m : Mode) (f : Fn) (x y : Array Value) : (store a (.func f x y) m).run P w = stored P w a (.func f x y) m := run_store P w a _ m rfl
attribute [local go_sem] run_store_func
set_option maxRecDepth 100000 in
set_option maxHeartbeats 4000000 in
theorem names_calls (e : Nd) (hv : noV e = true) (w : World) (A2 A4 : Option Addr) (c2 c4 : Nat) (hl2 : e.f2.length ≤ c2) (hl4 : e.f4.length ≤ c4) (h2 : Kd.C k58 w A2 e.f2.length e.f2) (h4 : Kd.C k26 w A4 e.f4.length e.f4) :
    Calls Tryz.prog 25 #[.agg #[.int .i64 e.f0, .int .i64 e.f1, .slice A2 e.f2.length c2, .string e.f3, .slice A4 e.f4.length c4]] w fun r w' => r = .returned (.slice none 0 0) ∧ Below w.heap.size w w' := by
  obtain ⟨a1, e1⟩ : ∃ a1, w.alloc (.cells #[.int .i64 e.f0, .int .i64 e.f1, .slice A2 e.f2.length c2, .string e.f3, .slice A4 e.f4.length c4] 26) = a1 := ⟨_, rfl⟩
  obtain ⟨a2, e2⟩ : ∃ a2, a1.alloc (.cells #[.slice none 0 0] 45) = a2 := ⟨_, rfl⟩
  have s1 : a1.heap.size = w.heap.size + 1 := by rw [← e1]; simp
  have s2 : a2.heap.size = w.heap.size + 1 + 1 := by rw [← e2]; simp [s1]
  obtain ⟨a3, e3⟩ : ∃ a3, a2.alloc (.cells #[.nilFunc] 91) = a3 := ⟨_, rfl⟩
  obtain ⟨a4, e4⟩ : ∃ a4, a3.setCell ⟨w.heap.size + 1 + 1, 0, none⟩ (.func (.func 48) #[] #[.pointer (some ⟨w.heap.size + 1, 0, none⟩), .pointer (some ⟨w.heap.size + 1 + 1, 0, none⟩)]) = a4 := ⟨_, rfl⟩
  have b1 : Below w.heap.size w a1 := by rw [← e1]; exact (Below.refl _ w).alloc (Nat.le_refl _) _
  have n1 : a1.heap[w.heap.size]? = some (.cells #[.int .i64 e.f0, .int .i64 e.f1, .slice A2 e.f2.length c2, .string e.f3, .slice A4 e.f4.length c4] 26 (0, 0)) := by rw [← e1]; exact heap_alloc_new w _
  have b2 : Below a1.heap.size a1 a2 := by rw [← e2]; exact (Below.refl _ a1).alloc (Nat.le_refl _) _
  have n2 : a2.heap[w.heap.size + 1]? = some (.cells #[.slice none 0 0] 45 (0, 0)) := by rw [← e2, ← s1]; exact heap_alloc_new a1 _
  have b3 : Below a2.heap.size a2 a3 := by rw [← e3]; exact (Below.refl _ a2).alloc (Nat.le_refl _) _
  have n3 : a3.heap[w.heap.size + 1 + 1]? = some (.cells #[.nilFunc] 91 (0, 0)) := by rw [← e3, ← s2]; exact heap_alloc_new a2 _
  have c3 : a3.cell? ⟨w.heap.size + 1 + 1, 0, none⟩ = some .nilFunc := (blk_cell n3 0).trans rfl
  have f3 : a3.frozen? ⟨w.heap.size + 1 + 1, 0, none⟩ = false := blk_frozen n3 0
  have b4 : Below (w.heap.size + 1 + 1) a3 a4 := by rw [← e4]; exact (Below.refl _ a3).setCell (p := ⟨w.heap.size + 1 + 1, 0, none⟩) (Nat.le_refl _) _
  have n4 : a4.heap[w.heap.size + 1 + 1]? = some (.cells #[.func (.func 48) #[] #[.pointer (some ⟨w.heap.size + 1, 0, none⟩), .pointer (some ⟨w.heap.size + 1 + 1, 0, none⟩)]] 91 (0, 0)) := by rw [← e4]; exact heap_set n3 0 _
  have m1 : a4.heap[w.heap.size]? = some (.cells #[.int .i64 e.f0, .int .i64 e.f1, .slice A2 e.f2.length c2, .string e.f3, .slice A4 e.f4.length c4] 26 (0, 0)) := (b4.block _ (by omega)).trans ((b3.block _ (by omega)).trans ((b2.block _ (by omega)).trans n1))
  have m2 : a4.heap[w.heap.size + 1]? = some (.cells #[.slice none 0 0] 45 (0, 0)) := (b4.block _ (by omega)).trans ((b3.block _ (by omega)).trans n2)
  have hb : Below w.heap.size w a4 := b1.trans ((b2.mono (by omega)).trans ((b3.mono (by omega)).trans (b4.mono (by omega))))
  have H1 := Lib.hid (names1_calls (w.heap.size + 1) (w.heap.size + 1 + 1) e hv a4 A2 A4 c2 c4 hl2 hl4 (Kd.C_below h2 hb) (Kd.C_below h4 hb) n4)
  have cw := (blk_cell n4 0).trans rfl
  have d0 := (blk_cell m1 0).trans rfl
  have d1 := (blk_cell m1 1).trans rfl
  have d2 := (blk_cell m1 2).trans rfl
  have d3 := (blk_cell m1 3).trans rfl
  have d4 := (blk_cell m1 4).trans rfl
  have co : a4.cell? ⟨w.heap.size + 1, 0, none⟩ = some (.slice none 0 0) := (blk_cell m2 0).trans rfl
  have HB := Lib.hid hb
  have HS := Lib.hid (fun W : World => (AnyM.slices_Sort_string_none Tryz.sortStr none 0 W : Calls Tryz.prog 50 #[.slice none 0 0] W fun e w' => e = .returned (.tuple #[]) ∧ w' = W))
  clear b1 n1 b2 n2 b3 n3 b4 n4 m1 m2 hb h2 h4 hv
  go_enter Tryz.func25, Tryz.ntmps25
  go_wp2_with (go_at_call 48; refine H1.out.mono ?_; rintro e' w5 ⟨rfl, hb5⟩; have co5 := cell_b hb5 co; have HB5 := Lib.hid hb5; clear hb5 H1)
  refine (HS.out _).mono ?_
  rintro e' w6 ⟨rfl, rfl⟩
  go_wp2
  go_ret
  exact ⟨rfl, HB.out.trans (HB5.out.mono HB.out.size)⟩
end Go.Proofs.YtfinjenkgpndlaaGreatDoor.PA

