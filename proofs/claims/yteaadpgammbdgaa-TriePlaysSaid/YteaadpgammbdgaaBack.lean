/- A word from its end on: slices.Backward, trie.back, as iterators. -/
import Derived.Test.YteaadpgammbdgaaRange
import Derived.IntWalk
namespace Go.Proofs.Yteaadpgammbdgaa.PA
open Go.RowKit Go.Shelf Go.Proofs.YteaadpgammbdgaaW.PrintWords Go.Proofs.YteaadpgammbdgaaW.PrintLast Go.Proofs.YteaadpgammbdgaaW.PrintMore
attribute [local go_sem] Oper.semAt_some
set_option linter.unusedVariables false
set_option linter.unusedSimpArgs false

/-- A variable that holds a word. -/
structure SrcW (B : Nat) (W : World) (Bx : Nat) (A : Option Addr) (c : Nat) (zs : List Int) : Prop where
  box : W.heap[Bx]? = some (.cells #[.slice A zs.length c] 22 (0, 0))
  row : Kd.C (Kd.int .i32) W A zs.length zs
  calm : ∀ a, A = some a → 0 < zs.length → Calm B W a.block
theorem SrcW.kept {B Bx c : Nat} {W W' : World} {A : Option Addr} {zs : List Int} (h : SrcW B W Bx A c zs) (e : W'.heap[Bx]? = W.heap[Bx]?) (e2 : ∀ a, A = some a → 0 < zs.length → W'.heap[a.block]? = W.heap[a.block]?) : SrcW B W' Bx A c zs := by
  refine ⟨e.trans h.box, ?_, fun a ha hn => (h.calm a ha hn).kept (e2 a ha hn)⟩
  rcases Nat.eq_zero_or_pos zs.length with hz | hz
  · exact ⟨h.row.1, h.row.2.1, fun hn => by omega⟩
  · exact C_kept h.row (fun _ _ hk => hk) (fun a ha => e2 a ha hz)
theorem SrcW.kp {B Bx c : Nat} {W W' : World} {A : Option Addr} {zs : List Int} (h : SrcW B W Bx A c zs) (k : KpT B W W') : SrcW B W' Bx A c zs :=
  h.kept ((k.same _ _ h.box (.inr rfl)).trans h.box.symm) (fun a ha hn => k.block (h.calm a ha hn))
theorem SrcW.turn {B B' Bx c : Nat} {W W' : World} {A : Option Addr} {zs : List Int} (h : SrcW B W Bx A c zs) (k : TurnFrom B' W W') : SrcW B W' Bx A c zs := by
  refine h.kept ((k.same _ _ h.box (.inr rfl)).trans h.box.symm) (fun a ha hn => ?_)
  obtain ⟨ad, e, hc⟩ := h.row.2.2 hn
  obtain ⟨cc, h1, _, h3⟩ := hc 0 _ (List.getElem?_eq_getElem hn)
  have hu := h3 0 _ (List.getElem?_eq_getElem (by rw [h1]; exact Nat.zero_lt_one))
  have e0 : ad.add (0 * (Kd.int .i32).sz + 0) = ad := by simp [Addr.add]
  rw [e0] at hu
  rw [ha] at e; cases e
  obtain ⟨o, ho, hcl⟩ := cells_of_cell hu
  exact (k.same _ _ ho (.inr (by cases o <;> first | rfl | (simp [Obj.isCells] at hcl)))).trans ho.symm

/-- The positions and elements of a word, from its end on. -/
def bw (zs : List Int) : List (Int × Int) := (List.range zs.length).map fun j => (((zs.length - 1 - j : Nat) : Int), rd zs ((zs.length - 1 - j : Nat) : Int))
theorem bw_length (zs : List Int) : (bw zs).length = zs.length := by simp [bw]
theorem bw_get (zs : List Int) (j : Nat) (h : j < zs.length) : (bw zs)[j]? = some (((zs.length - 1 - j : Nat) : Int), rd zs ((zs.length - 1 - j : Nat) : Int)) := by
  simp [bw, h]
theorem bw_rev (zs : List Int) : (bw zs).map (·.2) = zs.reverse := by
  apply List.ext_getElem?
  intro j
  rw [List.getElem?_map]
  by_cases h : j < zs.length
  · rw [bw_get zs j h, List.getElem?_reverse h]
    have h2 : zs.length - 1 - j < zs.length := by omega
    simp [rd, h2]
  · rw [List.getElem?_eq_none (by rw [bw_length]; omega), List.getElem?_eq_none (by simp; omega)]
    rfl

set_option maxRecDepth 100000 in
set_option maxHeartbeats 4000000 in
theorem backward1_iter (B Bx c : Nat) (A : Option Addr) (zs : List Int) (hl : zs.length < 4611686018427387904) (W : World) (hS : SrcW B W Bx A c zs) :
    Iter Try.prog B 72 #[.pointer (some ⟨Bx, 0, none⟩)] (fun p : Int × Int => #[Value.int .i64 p.1, Value.int .i32 p.2]) (bw zs) W := by
  intro l J Jx hJ hJx hY h0 n
  have hc0 : W.cell? ⟨Bx, 0, none⟩ = some (.slice A zs.length c) := by unfold World.cell?; simp only [hS.box]; rfl
  refine callsIn_depth (n := 5) ?_
  refine callsIn_of_wp Try.func72 rfl trivial ?_ rfl
  simp only [Try.ntmps72, List.size_toArray, List.length_cons, List.length_nil, Nat.reduceAdd, Nat.reduceSub, Array.replicate_succ, Array.replicate_zero, List.push_toArray, List.append_toArray, List.nil_append, List.cons_append]
  have HS := Lib.hid hS
  have HY := Lib.hid hY
  have HJ0 := Lib.hid h0
  clear hS hY h0
  gi_wp2
  gi_loopw [3] (fun i wr => ∃ k : Nat, k ≤ zs.length ∧ i = .int .i64 ((zs.length : Int) - 1 - k) ∧ Hid (J k wr) ∧ Hid (SrcW B wr Bx A c zs)) (fun i _ => (intOf i + 1).toNat)
  case atStart => exact ⟨0, Nat.zero_le _, by simp, HJ0.out, HS.out⟩
  case round =>
    obtain ⟨k, hk, rfl, hJs, hSs⟩ := hrel
    by_cases hlt : k < zs.length
    · obtain ⟨ad, rfl, hx⟩ := Kd.at_int hSs.out.row ((zs.length : Int) - 1 - k) (by omega) (by omega)
      have hcb : wr.cell? ⟨Bx, 0, none⟩ = some (.slice (some ad) zs.length c) := by unfold World.cell?; simp only [hSs.out.box]; rfl
      have hbg := bw_get zs k hlt
      rw [show ((zs.length - 1 - k : Nat) : Int) = (zs.length : Int) - 1 - k by omega] at hbg
      have hy := HY.out k _ wr hbg hJs.out (5 - 1)
      generalize rd zs ((zs.length : Int) - 1 - k) = x at hx hy
      obtain ⟨fn, tmps, assign, body, hy, hR⟩ := hy
      have b1 : (0 : Int) ≤ (zs.length : Int) - 1 - k := by omega
      have b2 : (zs.length : Int) - 1 - k < zs.length := by omega
      have b3 : IntKind.i64.wrap ((zs.length : Int) - 1 - k - 1) = (zs.length : Int) - 1 - (k + 1 : Nat) := by
        rw [IntWalk.i64_in _ (by omega)]; omega
      rw [show ((zs.length : Int) - 1 - k).toNat = zs.length - 1 - k by omega] at hx
      clear hbg b3
      gi_wp2
      refine (roundIn_depth hR).mono ?_
      rintro e W3 (⟨rfl, hJ3, hk3⟩ | ⟨rfl, hJx3, _⟩)
      · have HJ3 := Lib.hid hJ3
        have HS3 := Lib.hid (hSs.out.kp hk3)
        clear hJ3 hk3
        gi_wp2
        go_roundw
        case rel => exact ⟨k + 1, by omega, by go_num, HJ3, HS3⟩
        case measure => simp [intOf]; omega
      · have HJ3 := Lib.hid hJx3
        clear hJx3
        gi_wp2
        refine bodyPost_ret (results_none rfl _ _ _) rfl ?_
        exact ⟨⟨_, rfl⟩, .inr HJ3.out⟩
    · obtain rfl : k = zs.length := by omega
      have b1 : (zs.length : Int) - 1 - zs.length < 0 := by omega
      gi_wp2
      go_end0
      exact ⟨⟨_, rfl⟩, .inl (by rw [bw_length]; exact hJs.out)⟩
set_option maxHeartbeats 1000000 in
theorem backward_calls (A : Option Addr) (m c : Nat) (w : World) : Calls Try.prog 62 #[.slice A m c] w fun e w' => e = .returned (.func (.func 72) #[] #[.pointer (some ⟨w.heap.size, 0, none⟩)]) ∧ w' = w.alloc (.cells #[.slice A m c] 22) := by
  go_enter Try.func62, Try.ntmps62
  go_wp2
  go_ret
  exact ⟨rfl, rfl⟩
set_option maxHeartbeats 1000000 in
theorem back_calls (A : Option Addr) (m c : Nat) (w : World) : Calls Try.prog 47 #[.slice A m c] w fun e w' => e = .returned (.func (.func 61) #[] #[.pointer (some ⟨w.heap.size, 0, none⟩)]) ∧ w' = w.alloc (.cells #[.slice A m c] 22) := by
  go_enter Try.func47, Try.ntmps47
  go_wp2
  go_ret
  exact ⟨rfl, rfl⟩
theorem SrcW.made {B Bx c : Nat} {W : World} {A : Option Addr} {zs : List Int} (h : SrcW B W Bx A c zs) (o : Obj) : SrcW B ((W.alloc o).alloc (.cells #[.slice A zs.length c] 22)) (W.heap.size + 1) A c zs := by
  have h2 := (h.turn (TurnFrom.alloc 0 W o)).turn (TurnFrom.alloc 0 (W.alloc o) (.cells #[.slice A zs.length c] 22))
  refine ⟨?_, h2.row, h2.calm⟩
  have := heap_alloc_new (W.alloc o) (.cells #[.slice A zs.length c] 22); rwa [World.size_alloc] at this
set_option maxRecDepth 100000 in
set_option maxHeartbeats 4000000 in
theorem back1_iter (B Bx c : Nat) (A : Option Addr) (zs : List Int) (hl : zs.length < 4611686018427387904) (W : World) (hS : SrcW B W Bx A c zs) :
    Iter Try.prog B 61 #[.pointer (some ⟨Bx, 0, none⟩)] (fun x : Int => #[Value.int .i32 x]) zs.reverse W := by
  intro l J Jx hJ hJx hY h0 n
  have hc0 : (W.alloc (.cells #[.func (.yield l) #[] #[]] 84)).cell? ⟨Bx, 0, none⟩ = some (.slice A zs.length c) := cell_old _ (by unfold World.cell?; simp only [hS.box]; rfl)
  refine callsIn_depth (n := 6) ?_
  refine callsIn_of_wp_marks Try.func61 rfl trivial ?_ rfl
  simp only [Try.ntmps61, List.size_toArray, List.length_cons, List.length_nil, Nat.reduceAdd, Nat.reduceSub, Array.replicate_succ, Array.replicate_zero, List.push_toArray, List.append_toArray, List.nil_append, List.cons_append]
  have HS := Lib.hid hS
  have HY := Lib.hid hY
  have HJ0 := Lib.hid h0
  have HJ := Lib.hid hJ
  have HJx := Lib.hid hJx
  clear hS hY h0 hJ hJx
  have hbc := fun W' => callsIn_wide (n := 6 - 1) |>.2 (backward_calls A zs.length c W')
  gi_wp2_with (refine ⟨trivial, ?_⟩; gi_at_call 62; refine (hbc _).mono ?_; rintro e w2 ⟨rfl, rfl⟩)
  obtain ⟨w2, e2⟩ : ∃ w2, (W.alloc (.cells #[.func (.yield l) #[] #[]] 84)).alloc (.cells #[.slice A zs.length c] 22) = w2 := ⟨_, rfl⟩
  have hs2 : w2.heap.size = W.heap.size + 1 + 1 := by rw [← e2]; simp
  have hT : TurnFrom W.heap.size W w2 := by rw [← e2]; exact (TurnFrom.alloc _ W _).trans (TurnFrom.alloc _ _ _)
  have hS2 : SrcW B w2 (W.heap.size + 1) A c zs := by rw [← e2]; exact HS.out.made _
  have hY2 : w2.heap[W.heap.size]? = some (.cells #[.func (.yield l) #[] #[]] 84 (0, 0)) := by
    rw [← e2]; exact (Below.heap_alloc _ _ _ (by simp)).trans (heap_alloc_new W _)
  have HJ2 := Lib.hid (HJ.out 0 W w2 HJ0.out hT)
  rw [e2]
  clear e2 hc0 hbc HJ0
  refine range_turn (B0 := B) rfl (enters_of Try.func72 (by kernel_rfl) rfl) (fun _ => rfl) (fun r => backward1_iter B (W.heap.size + 1) c A zs hl _ ((hS2.turn (TurnFrom.alloc 0 _ _)).turn (TurnFrom.alloc 0 _ _)))
    (fun i W' => J i W' ∧ W'.heap[W.heap.size]? = some (.cells #[.func (.yield l) #[] #[]] 84 (0, 0))) Jx
    (fun i X Y ⟨q1, q2⟩ ht => ⟨HJ.out i X Y q1 (ht.lower (by omega)), ht.same _ _ q2 (.inr rfl)⟩) (fun X Y q ht => HJx.out X Y q (ht.lower (by omega))) ⟨HJ2.out, hY2⟩
    (fun x => { tmps := #[.func (.yield l) #[] #[], .pointer (some ⟨Bx, 0, none⟩), .pointer (some ⟨W.heap.size, 0, none⟩), undef, .int .i32 x.2, .slice A zs.length c, .func (.func 72) #[] #[.pointer (some ⟨W.heap.size + 1, 0, none⟩)], .int .i64 x.1, .int .i32 x.2, undef, undef, undef, undef], defers := [] })
    ?assign ?body ?done ?stop
  case assign =>
    intro l' x W' K hK
    gi_wp2
    exact hK
  case body =>
    rintro l' i x W' hx ⟨hj, hyb⟩
    have hcy : W'.cell? ⟨W.heap.size, 0, none⟩ = some (.func (.yield l) #[] #[]) := by unfold World.cell?; simp only [hyb]; rfl
    have hx2 : zs.reverse[i]? = some x.2 := by rw [← bw_rev, List.getElem?_map, hx]; rfl
    obtain ⟨fn, tmps, assign, body, hy, hR⟩ := HY.out i x.2 W' hx2 hj 5
    have HYB := Lib.hid hyb
    clear hyb hx hx2
    gi_wp2
    refine (show RoundIn (Fence.wide.inRound l') _ _ _ _ _ _ _ _ _ from roundIn_depth hR).mono ?_
    rintro e W3 (⟨rfl, hJ3, hk3⟩ | ⟨rfl, hJx3, hk3⟩)
    · have HJ3 := Lib.hid hJ3
      have HK3 := Lib.hid hk3
      clear hJ3 hk3
      gi_wp2
      exact ⟨HK3.out, HJ3.out, HK3.out.same _ _ HYB.out (.inr rfl)⟩
    · have HJ3 := Lib.hid hJx3
      have HK3 := Lib.hid hk3
      clear hJx3 hk3
      gi_wp2
      exact ⟨HK3.out.up (by omega), HJ3.out⟩
  case done =>
    rintro D W' hD ⟨hj, _⟩ hK
    rw [bw_length] at hj
    gi_wp2
    refine ⟨by simp, .inl ⟨_, _, rfl, run_takeDeferred hK, ?_⟩⟩
    exact ⟨_, results_none rfl _ _ _, ⟨_, rfl⟩, .inl (by rw [List.length_reverse]; exact HJ.out _ _ _ hj (TurnFrom.putObj _ (by omega) hK rfl))⟩
  case stop =>
    rintro D W' hD hj hK
    gi_wp2
    refine ⟨by simp, .inl ⟨_, _, rfl, run_takeDeferred hK, ?_⟩⟩
    exact ⟨_, results_none rfl _ _ _, ⟨_, rfl⟩, .inr (HJx.out _ _ hj (TurnFrom.putObj _ (by omega) hK rfl))⟩
end Go.Proofs.Yteaadpgammbdgaa.PA
