/- Where a word leads in a tree, new nodes made on the way: trie.tree.find. -/
import Derived.Test.YteaadpgammbdgaaFind
import Derived.Test.YteaadpgammbdgaaGrew
namespace Go.Proofs.Yteaadpgammbdgaa.PA
open Go.RowKit Go.Shelf Go.Proofs.YteaadpgammbdgaaW.PrintWords Go.Proofs.YteaadpgammbdgaaW.PrintLast Go.Proofs.YteaadpgammbdgaaW.PrintMore
attribute [local go_sem] Oper.semAt_some
set_option linter.unusedVariables false
set_option linter.unusedSimpArgs false

/-- What has come leads no deeper than L. -/
def Deeper (g g' : Gh) (L : Nat) : Prop := ∀ r, g' r ≠ none → g r ≠ none ∨ r.length ≤ L
theorem Deeper.mono {g g' : Gh} {L M : Nat} (h : Deeper g g' L) (hl : L ≤ M) : Deeper g g' M := fun r hr => (h r hr).imp id (fun q => by omega)
theorem Deeper.grow {g g' : Gh} {q : List Int} (h : Deeper g g' q.length) (c : Int) (nb mb : Nat) : Deeper g (g'.grow q c nb mb) (q ++ [c]).length := fun r hr => by
  unfold Gh.grow at hr
  split at hr
  · rename_i e; rw [e]; exact .inr (Nat.le_refl _)
  · exact (h r hr).imp id (fun q => by rw [List.length_append]; omega)
/-- The node that a call tells, in the tree that has grown. -/
def FoundNew (w : World) (N : Nat) (g : Gh) (q : List Int) (n : Nat) (e : Ending) (w' : World) : Prop :=
  ∃ nb mb h g', e = .returned (.pointer (some ⟨nb, 0, none⟩)) ∧ Grew w w' N n g g' ∧ g' q = some (nb, mb, h) ∧ Deeper g g' q.length
/-- Behind i steps. -/
def StepNew (w : World) (N : Nat) (g : Gh) (q : List Int) (i : Nat) (W : World) : Prop :=
  ∃ g' nb mb h, Grew w W N i g g' ∧ g' q = some (nb, mb, h) ∧ FindVars w W (some nb) true (.pointer none) ∧ Deeper g g' q.length
theorem StepNew.turn {B : Nat} {w W W' : World} {N i : Nat} {g : Gh} {q : List Int} (h : StepNew w N g q i W) (k : TurnFrom B W W') (hB : w.heap.size ≤ B) : StepNew w N g q i W' := by
  obtain ⟨g', nb, mb, hh, h1, h2, h3, h4⟩ := h
  exact ⟨g', nb, mb, hh, h1.turn k hB, h2, h3.turn k, h4⟩
theorem FindVars.grown {w W W' : World} {o : Option Nat} {mk : Bool} {r : Value} {mb : Nat} {es : Array MapEntry} {clock : Nat} (h : FindVars w W o mk r) (hm : W.heap[mb]? = some (.map es clock)) (hg : W.grownBy W' (some mb)) : FindVars w W' o mk r :=
  ⟨grown_box hm hg h.t, grown_box hm hg h.m, grown_box hm hg h.r⟩

set_option maxRecDepth 100000 in
set_option maxHeartbeats 4000000 in
theorem find_make {w : World} {N B Bx c : Nat} {A : Option Addr} {g : Gh} {p zs : List Int} {nb mb : Nat} {h : Bool} (T : Tree w N g) (hp : g p = some (nb, mb, h)) (hS : SrcW B w Bx A c zs) (hl : zs.length < 4611686018427387904) (hz : ∀ z ∈ zs, (Lit.int .i32 z).wf = true) (hB : B ≤ w.heap.size) (hBo : ∀ b, g.own b → B ≤ b) (hN : N + zs.length < maxLen) :
    Calls Try.prog 46 #[.pointer (some ⟨nb, 0, none⟩), .func (.func 61) #[] #[.pointer (some ⟨Bx, 0, none⟩)], .bool true] w (FoundNew w N g (p ++ zs.reverse) zs.length) := by
  refine callsIn_wide (n := 7) |>.1 ?_
  have HS := Lib.hid hS
  have HZ := Lib.hid hz
  have HT := Lib.hid T
  have HP := Lib.hid hp
  have HBO := Lib.hid hBo
  have HN := Lib.hid hN
  clear hS hz T hp hBo hN
  refine callsIn_of_wp_marks Try.func46 rfl trivial ?_ rfl
  simp only [Try.ntmps46, List.size_toArray, List.length_cons, List.length_nil, Nat.reduceAdd, Nat.reduceSub, Array.replicate_succ, Array.replicate_zero, List.push_toArray, List.append_toArray, List.nil_append, List.cons_append]
  gi_wp2
  have hv3 := find_start w nb true
  have hb3 : Below w.heap.size w (((w.alloc (.cells #[.pointer (some ⟨nb, 0, none⟩)] 67)).alloc (.cells #[.bool true] 4)).alloc (.cells #[.pointer none] 67)) := (((Below.refl _ w).alloc (Nat.le_refl _) _).alloc (by simp) _).alloc (by simp; omega) _
  have hS3 := ((HS.out.turn (TurnFrom.alloc 0 _ (.cells #[.pointer (some ⟨nb, 0, none⟩)] 67))).turn (TurnFrom.alloc 0 _ (.cells #[.bool true] 4))).turn (TurnFrom.alloc 0 _ (.cells #[.pointer none] 67))
  have hs3 : (((w.alloc (.cells #[.pointer (some ⟨nb, 0, none⟩)] 67)).alloc (.cells #[.bool true] 4)).alloc (.cells #[.pointer none] 67)).heap.size = w.heap.size + 1 + 1 + 1 := by simp
  generalize (((w.alloc (.cells #[.pointer (some ⟨nb, 0, none⟩)] 67)).alloc (.cells #[.bool true] 4)).alloc (.cells #[.pointer none] 67)) = w3 at hv3 hb3 hS3 hs3 ⊢
  refine range_turn (B0 := B) rfl (enters_of Try.func61 (by kernel_rfl) rfl) (fun _ => rfl) (fun r => back1_iter B Bx c A zs hl _ ((hS3.turn (TurnFrom.alloc 0 _ _)).turn (TurnFrom.alloc 0 _ _)))
    (fun i W => StepNew w N g (p ++ zs.reverse.take i) i W) (fun _ => False)
    (fun i X Y q ht => q.turn ht (by omega)) (fun X Y q ht => q.elim)
    (by rw [List.take_zero, List.append_nil]; exact ⟨g, nb, mb, h, Grew.start HT.out hb3, HP.out, hv3, fun r hr => .inl hr⟩)
    (fun x => { tmps := #[.pointer (some ⟨nb, 0, none⟩), .func (.func 61) #[] #[.pointer (some ⟨Bx, 0, none⟩)], .bool true, .pointer (some ⟨w.heap.size, 0, none⟩), undef, .pointer (some ⟨w.heap.size + 1, 0, none⟩), .pointer (some ⟨w.heap.size + 1 + 1, 0, none⟩), .int .i32 x, .func (.func 61) #[] #[.pointer (some ⟨Bx, 0, none⟩)], .int .i32 x, undef, undef, undef, undef, undef, undef, undef], defers := [] })
    ?assign ?body ?done ?stop
  case assign =>
    intro l x W K hK
    gi_wp2
    exact hK
  case body =>
    rintro l i x W hx ⟨g', b, mb', h', hG, hg, hv, hdp⟩
    have hwx : (Lit.int .i32 x).wf = true := HZ.out x (by have := List.mem_of_getElem? hx; simpa using this)
    have hil : i < zs.length := by have := (List.getElem?_eq_some_iff.1 hx).1; simpa using this
    have hct := box_cell hv.t
    have hcm := box_cell hv.m
    have hft := box_frozen hv.t
    have e1 : p ++ zs.reverse.take (i + 1) = p ++ zs.reverse.take i ++ [x] := by rw [take_snoc hx, List.append_assoc]
    have hNi : N + i < maxLen := by have := HN.out; omega
    have hmb : B ≤ mb' := by
      rcases hG.own mb' ⟨_, _, _, _, hg, .inr rfl⟩ with q | q
      · exact HBO.out _ q
      · omega
    obtain ⟨es, clock, hmo⟩ := (hG.tree.map _ _ _ _ hg).obj
    have HDP := Lib.hid hdp
    have HE := Lib.hid e1
    have HV := Lib.hid hv
    have HG := Lib.hid hG
    have HGG := Lib.hid hg
    have HMO := Lib.hid hmo
    simp only [ptr] at hct
    clear hx hv hG hg hmo e1 hdp
    have h1 : 1 ≤ 5 := by omega
    cases hgx : g' (p ++ zs.reverse.take i ++ [x]) with
    | some y =>
      obtain ⟨b2, mb2, h2⟩ := y
      have HD := Lib.hid (callsIn_wide (n := 5 - 1) |>.2 (down_there HG.out.tree HGG.out x hwx b2 mb2 h2 hgx))
      have HX := Lib.hid hgx
      clear hgx
      gi_wp2_with (refine ⟨trivial, ?_⟩; gi_at_call 48; refine (HD.out.inRound l).mono ?_; rintro e w' ⟨rfl, rfl⟩)
      exact ⟨kp_set HV.out.t hB _, g', b2, mb2, h2, HG.out.up.set (Nat.le_refl _) HV.out.t _, by rw [HE.out]; exact HX.out, HV.out.set (some b2), by rw [HE.out]; exact HDP.out.mono (by simp only [List.length_append]; omega)⟩
    | none =>
      have HD := Lib.hid (callsIn_wide (n := 5 - 1) |>.2 (down_make HG.out.tree HGG.out x hwx hgx hNi))
      have HX := Lib.hid hgx
      clear hgx
      gi_wp2_with (refine ⟨trivial, ?_⟩; gi_at_call 48; refine (HD.out.inRound l).mono ?_; rintro e w' ⟨rfl, hT', hg'⟩; have hv2 := HV.out.grown HMO.out hg'; have hct2 := box_cell hv2.t; have hft2 := box_frozen hv2.t; have HV2 := Lib.hid hv2; have HT2 := Lib.hid hT'; have HG2 := Lib.hid hg'; clear hv2 hT' hg')
      refine ⟨(kp_grown HMO.out hmb HG2.out).trans (kp_set HV2.out.t hB _), _, W.heap.size + 1, W.heap.size, false, (HG.out.step HGG.out HX.out HT2.out HG2.out).set (Nat.le_refl _) HV2.out.t _, ?_, HV2.out.set (some (W.heap.size + 1)), by rw [HE.out]; exact HDP.out.grow x _ _⟩
      rw [HE.out]
      unfold Gh.grow
      rw [if_pos rfl]
  case done =>
    rintro D W hD ⟨g', b, mb', h', hG, hg, hv, hdp⟩ hK
    have hct := box_cell hv.t
    have hcr := box_cell hv.r
    have hfr := box_frozen hv.r
    simp only [ptr] at hct
    rw [show zs.reverse.take zs.reverse.length = zs.reverse from List.take_length ..] at hg hdp
    have HDP := Lib.hid hdp
    clear hdp
    rw [List.length_reverse] at hG
    have hsz := hG.size
    have hW2 := box_set hv.r (.pointer (some ⟨b, 0, none⟩))
    have hK2 := (Below.heap_setCell W ⟨w.heap.size + 1 + 1, 0, none⟩ (.pointer (some ⟨b, 0, none⟩)) D (show D ≠ w.heap.size + 1 + 1 by omega)).trans hK
    have hG2 := hG.set (show w.heap.size ≤ w.heap.size + 1 + 1 by omega) hv.r (.pointer (some ⟨b, 0, none⟩))
    have HW2 := Lib.hid hW2
    have HK2 := Lib.hid hK2
    have HG2 := Lib.hid hG2
    have HGG := Lib.hid hg
    clear hW2 hK2 hG2 hG hg hv hK
    gi_wp2
    have hres : ((W.setCell ⟨w.heap.size + 1 + 1, 0, none⟩ (.pointer (some ⟨b, 0, none⟩))).putObj D (.deferred none)).cell? ⟨w.heap.size + 1 + 1, 0, none⟩ = some (.pointer (some ⟨b, 0, none⟩)) := box_cell ((World.putObj_heap_other (by omega)).trans HW2.out)
    refine ⟨by simp, .inl ⟨_, _, rfl, run_takeDeferred HK2.out, ?_⟩⟩
    refine ⟨.pointer (some ⟨b, 0, none⟩), by simp [results, Try.results46, go_sem, hres], b, mb', h', g', rfl, HG2.out.turn (B := w.heap.size) (TurnFrom.putObj _ (by omega) HK2.out rfl) (Nat.le_refl _), HGG.out, HDP.out⟩
  case stop =>
    rintro D W hD hn hK
    exact hn.elim
end Go.Proofs.Yteaadpgammbdgaa.PA
