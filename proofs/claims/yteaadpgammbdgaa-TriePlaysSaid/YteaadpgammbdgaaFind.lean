/- Where a word leads in a tree: trie.tree.find, without and with new nodes. -/
import Derived.Test.YteaadpgammbdgaaDown
import Derived.Test.YteaadpgammbdgaaBack
namespace Go.Proofs.Yteaadpgammbdgaa.PA
open Go.RowKit Go.Shelf Go.Proofs.YteaadpgammbdgaaW.PrintWords Go.Proofs.YteaadpgammbdgaaW.PrintLast Go.Proofs.YteaadpgammbdgaaW.PrintMore
attribute [local go_sem] Oper.semAt_some
set_option linter.unusedVariables false
set_option linter.unusedSimpArgs false

theorem Tree.none_app {w : World} {N : Nat} {g : Gh} (T : Tree w N g) {p : List Int} (h : g p = none) : ∀ q : List Int, g (p ++ q) = none := by
  intro q
  induction q generalizing p with
  | nil => simpa using h
  | cons x xs ih => have := ih (T.closed p x h); simpa using this
theorem box_cell {w : World} {b : Nat} {v : Value} {t : TypeId} (h : w.heap[b]? = some (.cells #[v] t (0, 0))) : w.cell? ⟨b, 0, none⟩ = some v := by
  unfold World.cell?; simp only [h]; rfl
theorem box_frozen {w : World} {b : Nat} {v : Value} {t : TypeId} (h : w.heap[b]? = some (.cells #[v] t (0, 0))) : w.frozen? ⟨b, 0, none⟩ = false := by
  unfold World.frozen?; simp [h]
theorem box_set {w : World} {b : Nat} {v : Value} {t : TypeId} (h : w.heap[b]? = some (.cells #[v] t (0, 0))) (u : Value) : (w.setCell ⟨b, 0, none⟩ u).heap[b]? = some (.cells #[u] t (0, 0)) := heap_set h 0 u
theorem kp_set {B : Nat} {w : World} {b : Nat} {v : Value} (h : w.heap[b]? = some (.cells #[v] 67 (0, 0))) (hB : B ≤ b) (u : Value) : KpT B w (w.setCell ⟨b, 0, none⟩ u) := by
  refine ⟨(KeepsOthers.setCell w _ u).size, fun k o hk ho => ?_⟩
  by_cases e : k = b
  · subst e
    rw [h] at hk; cases hk
    rcases ho with ho | ho
    · omega
    · simp [treeish] at ho
  · exact (Below.heap_setCell w ⟨b, 0, none⟩ u k e).trans hk
/-- The three variables of a call of find. -/
structure FindVars (w W : World) (o : Option Nat) (mk : Bool) (r : Value) : Prop where
  t : W.heap[w.heap.size]? = some (.cells #[ptr o] 67 (0, 0))
  m : W.heap[w.heap.size + 1]? = some (.cells #[.bool mk] 4 (0, 0))
  r : W.heap[w.heap.size + 1 + 1]? = some (.cells #[r] 67 (0, 0))
theorem FindVars.turn {w W W' : World} {o : Option Nat} {mk : Bool} {r : Value} {B : Nat} (h : FindVars w W o mk r) (k : TurnFrom B W W') : FindVars w W' o mk r :=
  ⟨k.same _ _ h.t (.inr rfl), k.same _ _ h.m (.inr rfl), k.same _ _ h.r (.inr rfl)⟩
theorem take_snoc {xs : List Int} {i : Nat} {x : Int} (h : xs[i]? = some x) : xs.take (i + 1) = xs.take i ++ [x] := by
  obtain ⟨hl, e⟩ := List.getElem?_eq_some_iff.1 h
  rw [List.take_succ_eq_append_getElem hl, e]

theorem FindVars.set {w W : World} {o : Option Nat} {mk : Bool} {r : Value} (h : FindVars w W o mk r) (o' : Option Nat) : FindVars w (W.setCell ⟨w.heap.size, 0, none⟩ (ptr o')) o' mk r :=
  ⟨box_set h.t _, (Below.heap_setCell W ⟨w.heap.size, 0, none⟩ _ _ (by simp)).trans h.m, (Below.heap_setCell W ⟨w.heap.size, 0, none⟩ _ _ (by simp; omega)).trans h.r⟩
theorem find_start (w : World) (nb : Nat) (mk : Bool) :
    FindVars w (((w.alloc (.cells #[.pointer (some ⟨nb, 0, none⟩)] 67)).alloc (.cells #[.bool mk] 4)).alloc (.cells #[.pointer none] 67)) (some nb) mk (.pointer none) := by
  refine ⟨?_, ?_, ?_⟩
  · exact (Below.heap_alloc _ _ _ (by simp; omega)).trans ((Below.heap_alloc _ _ _ (by simp)).trans (heap_alloc_new w _))
  · refine (Below.heap_alloc _ _ _ (by simp)).trans ?_
    have := heap_alloc_new (w.alloc (.cells #[.pointer (some ⟨nb, 0, none⟩)] 67)) (.cells #[.bool mk] 4); rwa [World.size_alloc] at this
  · have := heap_alloc_new ((w.alloc (.cells #[.pointer (some ⟨nb, 0, none⟩)] 67)).alloc (.cells #[.bool mk] 4)) (.cells #[.pointer none] 67); rwa [World.size_alloc, World.size_alloc] at this

set_option maxRecDepth 100000 in
set_option maxHeartbeats 4000000 in
theorem find_false {w : World} {N B Bx c : Nat} {A : Option Addr} {g : Gh} {p zs : List Int} {nb mb : Nat} {h : Bool} (T : Tree w N g) (hp : g p = some (nb, mb, h)) (hS : SrcW B w Bx A c zs) (hl : zs.length < 4611686018427387904) (hz : ∀ z ∈ zs, (Lit.int .i32 z).wf = true) (hB : B ≤ w.heap.size) :
    Calls Try.prog 46 #[.pointer (some ⟨nb, 0, none⟩), .func (.func 61) #[] #[.pointer (some ⟨Bx, 0, none⟩)], .bool false] w fun e w' => e = .returned (ptr ((g (p ++ zs.reverse)).map (·.1))) ∧ Below w.heap.size w w' := by
  obtain ⟨o, ho⟩ : ∃ o, Option.map (fun y : Nat × Nat × Bool => y.1) (g (p ++ zs.reverse)) = o := ⟨_, rfl⟩
  rw [ho]
  have HO0 := Lib.hid ho
  clear ho
  refine callsIn_wide (n := 7) |>.1 ?_
  have HS := Lib.hid hS
  have HZ := Lib.hid hz
  have HT := Lib.hid T
  have HP := Lib.hid hp
  clear hS hz T hp
  refine callsIn_of_wp_marks Try.func46 rfl trivial ?_ rfl
  simp only [Try.ntmps46, List.size_toArray, List.length_cons, List.length_nil, Nat.reduceAdd, Nat.reduceSub, Array.replicate_succ, Array.replicate_zero, List.push_toArray, List.append_toArray, List.nil_append, List.cons_append]
  gi_wp2
  have hv3 := find_start w nb false
  have hb3 : Below w.heap.size w (((w.alloc (.cells #[.pointer (some ⟨nb, 0, none⟩)] 67)).alloc (.cells #[.bool false] 4)).alloc (.cells #[.pointer none] 67)) := (((Below.refl _ w).alloc (Nat.le_refl _) _).alloc (by simp) _).alloc (by simp; omega) _
  have hS3 := ((HS.out.turn (TurnFrom.alloc 0 _ (.cells #[.pointer (some ⟨nb, 0, none⟩)] 67))).turn (TurnFrom.alloc 0 _ (.cells #[.bool false] 4))).turn (TurnFrom.alloc 0 _ (.cells #[.pointer none] 67))
  have hs3 : (((w.alloc (.cells #[.pointer (some ⟨nb, 0, none⟩)] 67)).alloc (.cells #[.bool false] 4)).alloc (.cells #[.pointer none] 67)).heap.size = w.heap.size + 1 + 1 + 1 := by simp
  generalize (((w.alloc (.cells #[.pointer (some ⟨nb, 0, none⟩)] 67)).alloc (.cells #[.bool false] 4)).alloc (.cells #[.pointer none] 67)) = w3 at hv3 hb3 hS3 hs3 ⊢
  refine range_turn (B0 := B) rfl (enters_of Try.func61 (by kernel_rfl) rfl) (fun _ => rfl) (fun r => back1_iter B Bx c A zs hl _ ((hS3.turn (TurnFrom.alloc 0 _ _)).turn (TurnFrom.alloc 0 _ _)))
    (fun i W => FindVars w W (Option.map (fun y : Nat × Nat × Bool => y.1) (g (p ++ zs.reverse.take i))) false (.pointer none) ∧ Below w.heap.size w W)
    (fun W => g (p ++ zs.reverse) = none ∧ W.heap[w.heap.size + 1 + 1]? = some (.cells #[.pointer none] 67 (0, 0)) ∧ Below w.heap.size w W)
    (fun i X Y ⟨q1, q2⟩ ht => ⟨q1.turn ht, ht.below q2 (by omega)⟩) (fun X Y ⟨q0, q1, q2⟩ ht => ⟨q0, ht.same _ _ q1 (.inr rfl), ht.below q2 (by omega)⟩)
    ⟨by rw [List.take_zero, List.append_nil, HP.out]; exact hv3, hb3⟩
    (fun x => { tmps := #[.pointer (some ⟨nb, 0, none⟩), .func (.func 61) #[] #[.pointer (some ⟨Bx, 0, none⟩)], .bool false, .pointer (some ⟨w.heap.size, 0, none⟩), undef, .pointer (some ⟨w.heap.size + 1, 0, none⟩), .pointer (some ⟨w.heap.size + 1 + 1, 0, none⟩), .int .i32 x, .func (.func 61) #[] #[.pointer (some ⟨Bx, 0, none⟩)], .int .i32 x, undef, undef, undef, undef, undef, undef, undef], defers := [] })
    ?assign ?body ?done ?stop
  case assign =>
    intro l x W K hK
    gi_wp2
    exact hK
  case body =>
    rintro l i x W hx ⟨hv, hb⟩
    have hwx : (Lit.int .i32 x).wf = true := HZ.out x (by have := List.mem_of_getElem? hx; simpa using this)
    have htk := take_snoc hx
    have hct := box_cell hv.t
    have hcm := box_cell hv.m
    have hcr := box_cell hv.r
    have hft := box_frozen hv.t
    have hfr := box_frozen hv.r
    have HV := Lib.hid hv
    have HB := Lib.hid hb
    have T' := HT.out.below hb
    have HTK := Lib.hid htk
    have HX := Lib.hid hx
    clear hv hb htk hx
    cases hg : g (p ++ zs.reverse.take i) with
    | none =>
      have HG := Lib.hid hg
      rw [hg] at hct
      simp only [Option.map_none, ptr] at hct
      have hnone : g (p ++ zs.reverse) = none := by
        have := T'.none_app hg (zs.reverse.drop i)
        rwa [List.append_assoc, List.take_append_drop] at this
      have HN := Lib.hid hnone
      clear hg hnone T'
      gi_wp2
      exact ⟨(kp_set HV.out.r (by omega) _).e _, HN.out, box_set HV.out.r _, HB.out.setCell (p := ⟨w.heap.size + 1 + 1, 0, none⟩) (by show _ ≤ w.heap.size + 1 + 1; omega) _⟩
    | some y =>
      obtain ⟨b, mb', h'⟩ := y
      rw [hg] at hct
      simp only [Option.map_some, ptr] at hct
      have hd := callsIn_wide (n := 5 - 1) |>.2 (down_false T' hg x hwx)
      have e1 : p ++ zs.reverse.take (i + 1) = p ++ zs.reverse.take i ++ [x] := by rw [HTK.out, List.append_assoc]
      have HV2 := Lib.hid (HV.out.set ((g (p ++ zs.reverse.take (i + 1))).map (·.1)))
      have HE := Lib.hid e1
      rw [← e1] at hd
      obtain ⟨o', ho'⟩ : ∃ o', Option.map (fun y : Nat × Nat × Bool => y.1) (g (p ++ zs.reverse.take (i + 1))) = o' := ⟨_, rfl⟩
      have HV3 := HV2.out
      rw [ho'] at hd HV3
      have HO := Lib.hid ho'
      have HD := Lib.hid hd
      have HV4 := Lib.hid HV3
      clear hg T' hd e1 ho' HV3 HV2
      have h1 : 1 ≤ 5 := by omega
      cases o' with
      | none =>
        gi_wp2_with (refine ⟨trivial, ?_⟩; gi_at_call 48; refine (HD.out.inRound l).mono ?_; rintro e w' ⟨rfl, rfl⟩; simp only [ptr])
        exact ⟨kp_set HV.out.t hB _, by rw [HO.out]; exact HV4.out, HB.out.setCell (p := ⟨w.heap.size, 0, none⟩) (Nat.le_refl _) _⟩
      | some b2 =>
        gi_wp2_with (refine ⟨trivial, ?_⟩; gi_at_call 48; refine (HD.out.inRound l).mono ?_; rintro e w' ⟨rfl, rfl⟩; simp only [ptr])
        exact ⟨kp_set HV.out.t hB _, by rw [HO.out]; exact HV4.out, HB.out.setCell (p := ⟨w.heap.size, 0, none⟩) (Nat.le_refl _) _⟩
  case done =>
    rintro D W hD ⟨hv, hb⟩ hK
    have hct := box_cell hv.t
    have hcr := box_cell hv.r
    have hfr := box_frozen hv.r
    rw [show zs.reverse.take zs.reverse.length = zs.reverse from List.take_length ..] at hct
    have HV := Lib.hid hv
    have HB := Lib.hid hb
    clear hv hb
    rw [HO0.out] at hct
    have hsz := HB.out.size
    cases o with
    | none =>
      simp only [ptr] at hct
      have hW2 := box_set HV.out.r (.pointer none)
      have hK2 := (Below.heap_setCell W ⟨w.heap.size + 1 + 1, 0, none⟩ (.pointer none) D (show D ≠ w.heap.size + 1 + 1 by omega)).trans hK
      have hB2 := HB.out.setCell (p := ⟨w.heap.size + 1 + 1, 0, none⟩) (by show _ ≤ w.heap.size + 1 + 1; omega) (.pointer none)
      have HW2 := Lib.hid hW2
      have HK2 := Lib.hid hK2
      have HB2 := Lib.hid hB2
      clear hW2 hK2 hB2
      gi_wp2
      have hres : ((W.setCell ⟨w.heap.size + 1 + 1, 0, none⟩ (.pointer none)).putObj D (.deferred none)).cell? ⟨w.heap.size + 1 + 1, 0, none⟩ = some (.pointer none) := box_cell ((World.putObj_heap_other (by omega)).trans HW2.out)
      refine ⟨by simp, .inl ⟨_, _, rfl, run_takeDeferred HK2.out, ?_⟩⟩
      refine ⟨.pointer none, by simp [results, Try.results46, go_sem, hres], rfl, belowK_t HB2.out (belowK_b (w := w) (Nat.le_refl _) _ D _ _ (by omega) HK2.out rfl rfl)⟩
    | some b =>
      simp only [ptr] at hct
      have hW2 := box_set HV.out.r (.pointer (some ⟨b, 0, none⟩))
      have hK2 := (Below.heap_setCell W ⟨w.heap.size + 1 + 1, 0, none⟩ (.pointer (some ⟨b, 0, none⟩)) D (show D ≠ w.heap.size + 1 + 1 by omega)).trans hK
      have hB2 := HB.out.setCell (p := ⟨w.heap.size + 1 + 1, 0, none⟩) (by show _ ≤ w.heap.size + 1 + 1; omega) (.pointer (some ⟨b, 0, none⟩))
      have HW2 := Lib.hid hW2
      have HK2 := Lib.hid hK2
      have HB2 := Lib.hid hB2
      clear hW2 hK2 hB2
      gi_wp2
      have hres : ((W.setCell ⟨w.heap.size + 1 + 1, 0, none⟩ (.pointer (some ⟨b, 0, none⟩))).putObj D (.deferred none)).cell? ⟨w.heap.size + 1 + 1, 0, none⟩ = some (.pointer (some ⟨b, 0, none⟩)) := box_cell ((World.putObj_heap_other (by omega)).trans HW2.out)
      refine ⟨by simp, .inl ⟨_, _, rfl, run_takeDeferred HK2.out, ?_⟩⟩
      refine ⟨.pointer (some ⟨b, 0, none⟩), by simp [results, Try.results46, go_sem, hres], rfl, belowK_t HB2.out (belowK_b (w := w) (Nat.le_refl _) _ D _ _ (by omega) HK2.out rfl rfl)⟩
  case stop =>
    rintro D W hD ⟨hn, hr, hb⟩ hK
    have hsz := hb.size
    have e0 : o = none := by have := HO0.out; rw [hn] at this; exact this.symm
    subst e0
    have hres : (W.putObj D (.deferred none)).cell? ⟨w.heap.size + 1 + 1, 0, none⟩ = some (.pointer none) := box_cell ((World.putObj_heap_other (by omega)).trans hr)
    have HB := Lib.hid hb
    have HR := Lib.hid hres
    have HK := Lib.hid hK
    clear hb hr hres hK hn HO0
    gi_wp2
    refine ⟨by simp, .inl ⟨_, _, rfl, run_takeDeferred HK.out, ?_⟩⟩
    have hres := HR.out
    refine ⟨.pointer none, by simp [results, Try.results46, go_sem, hres], rfl, belowK_t HB.out (belowK_b (w := w) (Nat.le_refl _) _ D _ _ (by omega) HK.out rfl rfl)⟩
end Go.Proofs.Yteaadpgammbdgaa.PA
