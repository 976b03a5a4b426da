/- A word comes to a trie: trie.Add. -/
import Derived.Test.YteaadpgammbdgaaTrie
namespace Go.Proofs.Yteaadpgammbdgaa.PA
open Go.RowKit Go.Shelf Go.Proofs.YteaadpgammbdgaaW.PrintWords Go.Proofs.YteaadpgammbdgaaW.PrintLast Go.Proofs.YteaadpgammbdgaaW.PrintMore
set_option linter.unusedVariables false
set_option linter.unusedSimpArgs false

theorem mark_word {g : Gh} {p : List Int} {nb mb : Nat} {h : Bool} (hp : g p = some (nb, mb, h)) (b : Bool) (q : List Int) : isWord (g.mark p b) q = if q = p then b else isWord g q := by
  unfold isWord Gh.mark
  by_cases e : q = p
  · rw [if_pos e, if_pos e, hp]; rfl
  · rw [if_neg e, if_neg e]
theorem Grew.word {w W : World} {N i : Nat} {g g' : Gh} (h : Grew w W N i g g') (q : List Int) : isWord g' q = isWord g q := by
  unfold isWord
  cases hg : g q with
  | some x => rw [h.old q x hg]
  | none =>
    cases hg' : g' q with
    | none => rfl
    | some y => obtain ⟨nb, mb, hh⟩ := y; rw [h.fresh q nb mb hh hg hg']
theorem mark_own {g : Gh} {p : List Int} {b : Bool} {k : Nat} (h : (g.mark p b).own k) : g.own k := by
  obtain ⟨q, nb, mb, hh, hg, e⟩ := h
  unfold Gh.mark at hg
  split at hg
  · rename_i e2
    cases hp : g p with
    | none => rw [hp] at hg; cases hg
    | some y =>
      obtain ⟨nb2, mb2, h2⟩ := y
      rw [hp] at hg
      simp only [Option.map_some, Option.some.injEq, Prod.mk.injEq] at hg
      exact ⟨p, nb2, mb2, h2, hp, by rw [hg.1, hg.2.1]; exact e⟩
  · exact ⟨q, nb, mb, hh, hg, e⟩
/-- The trie's own block is none of the tree's. -/
theorem TrieAt.apart {w : World} {tb N n : Nat} {g : Gh} (h : TrieAt w tb N g n) : ¬ g.own tb := by
  obtain ⟨rb, mb, hh, h1, _⟩ := h.obj
  rintro ⟨p, nb, mb', h', hg, rfl | rfl⟩
  · rw [h.tree.node _ _ _ _ hg] at h1; cases h1
  · obtain ⟨es, clock, e⟩ := (h.tree.map _ _ _ _ hg).obj
    rw [e] at h1; cases h1
/-- What a trie's change keeps: whatever is none of its own. -/
structure Turned (w w' : World) (tb : Nat) (g g' : Gh) : Prop where
  own : ∀ b, g'.own b → g.own b ∨ w.heap.size ≤ b
  kept : ∀ k, k < w.heap.size → ¬ g.own k → k ≠ tb → w'.heap[k]? = w.heap[k]?
  os : w'.os = w.os
  tape : w'.tape = w.tape
  output : w'.output = w.output
  size : w.heap.size ≤ w'.heap.size
theorem Turned.below {w w' : World} {tb : Nat} {g g' : Gh} (h : Turned w w' tb g g') {B : Nat} (hb : ∀ b, g.own b → B ≤ b) (ht : B ≤ tb) (hB : B ≤ w.heap.size) : Below B w w' :=
  ⟨h.os, h.tape, h.output, h.size, fun k hk => h.kept k (by omega) (fun q => by have := hb k q; omega) (by omega)⟩
def Added (w : World) (tb N n : Nat) (g : Gh) (zs : List Int) (e : Ending) (w' : World) : Prop :=
  e = .returned (.bool true) ∧ ∃ g', TrieAt w' tb (N + zs.length) g' (n + 1) ∧ (∀ q, isWord g' q = (isWord g q || decide (q = zs.reverse))) ∧ Turned w w' tb g g' ∧ Deeper g g' zs.length
theorem mark_none {g : Gh} {p : List Int} {b : Bool} {r : List Int} (h : (g.mark p b) r ≠ none) : g r ≠ none := fun e => h (by
  unfold Gh.mark
  split
  · rename_i e2; rw [← e2, e]; rfl
  · exact e)

set_option maxRecDepth 100000 in
set_option maxHeartbeats 4000000 in
theorem add_empty {w : World} {tb c : Nat} {A : Option Addr} :
    Calls Try.prog 16 #[.pointer (some ⟨tb, 0, none⟩), .slice A 0 c] w fun e w' => e = .returned (.bool false) ∧ w' = w := by
  go_enter Try.func16, Try.ntmps16
  go_wp2
  go_ret
  exact ⟨rfl, rfl⟩
set_option maxRecDepth 100000 in
set_option maxHeartbeats 4000000 in
theorem add_there {w : World} {tb N n B c : Nat} {A : Option Addr} {g : Gh} {zs : List Int} (T : TrieAt w tb N g n) (hW : WordAt B w A zs) (hB : B ≤ w.heap.size) (h0 : 0 < zs.length) (hi : isWord g zs.reverse = true) :
    Calls Try.prog 16 #[.pointer (some ⟨tb, 0, none⟩), .slice A zs.length c] w fun e w' => e = .returned (.bool false) ∧ Below w.heap.size w w' := by
  have hH := has_calls (c := c) T hW hB
  rw [hi] at hH
  have HH := Lib.hid hH
  have d1 : ((zs.length : Int) == 0) = false := by simp; intro e; rw [e] at h0; simp at h0
  have d2 : decide (zs.length = 0) = false := by simp; intro e; rw [e] at h0; simp at h0
  clear T hW hB hi hH
  go_enter Try.func16, Try.ntmps16
  go_wp2_with (go_at_call 29; refine HH.out.mono ?_; rintro e w' ⟨rfl, hb⟩; have HB := Lib.hid hb; clear hb)
  go_ret
  exact ⟨rfl, HB.out⟩
theorem add_end {w wa w2 : World} {tb N n rb mb nb mb2 : Nat} {g g' : Gh} {zs : List Int} {hh h2 : Bool} (hba : Below w.heap.size w wa) (hobj : wa.heap[tb]? = some (.cells #[.pointer (some ⟨rb, 0, none⟩), .int .i64 (n : Int)] 72 (0, 0))) (hA : ¬ g.own tb) (hroot : g [] = some (rb, mb, hh))
    (hG : Grew wa w2 N zs.length g g') (hg : g' zs.reverse = some (nb, mb2, h2)) (hdp : Deeper g g' zs.reverse.length) :
    (w2.setCell ⟨nb, 1, none⟩ (.bool true)).cell? ⟨tb, 1, none⟩ = some (.int .i64 (n : Int)) ∧ (w2.setCell ⟨nb, 1, none⟩ (.bool true)).frozen? ⟨tb, 1, none⟩ = false ∧
      Added w tb N n g zs (.returned (.bool true)) ((w2.setCell ⟨nb, 1, none⟩ (.bool true)).setCell ⟨tb, 1, none⟩ (.int .i64 ((n : Int) + 1))) := by
  have hlt : tb < wa.heap.size := (Array.getElem?_eq_some_iff.1 hobj).1
  have hsa := hba.size
  have hown : ∀ k, g'.own k → k ≠ tb := fun k hk e => by
    subst e
    rcases hG.own k hk with q | q
    · exact hA q
    · omega
  have hnb : g'.own nb := ⟨_, _, _, _, hg, .inl rfl⟩
  have h1 : w2.heap[tb]? = some (.cells #[.pointer (some ⟨rb, 0, none⟩), .int .i64 (n : Int)] 72 (0, 0)) := (hG.kept tb hlt hA).trans hobj
  have h3 : (w2.setCell ⟨nb, 1, none⟩ (.bool true)).heap[tb]? = some (.cells #[.pointer (some ⟨rb, 0, none⟩), .int .i64 (n : Int)] 72 (0, 0)) := (Below.heap_setCell w2 ⟨nb, 1, none⟩ (.bool true) tb (fun e => hown nb hnb e.symm)).trans h1
  have hT := hG.tree.mark hg true
  refine ⟨by unfold World.cell?; simp only [h3]; rfl, by unfold World.frozen?; simp [h3], rfl, g'.mark zs.reverse true, ⟨hT.kept fun k hk => Below.heap_setCell _ ⟨tb, 1, none⟩ _ k (hown k (mark_own hk)), ?_⟩, fun q => ?_, ?_, fun r hr => (hdp r (mark_none hr)).imp id (fun q => by rw [List.length_reverse] at q; exact q)⟩
  · have hr := hG.old [] _ hroot
    refine ⟨rb, mb, if [] = zs.reverse then true else hh, ?_, ?_⟩
    · have := heap_set h3 1 (.int .i64 ((n : Int) + 1))
      rw [this]
      simp
    · unfold Gh.mark
      split
      · rename_i e
        rw [← e, hr]; rfl
      · rw [hr]
  · rw [mark_word hg, hG.word]
    by_cases e : q = zs.reverse
    · rw [if_pos e, decide_eq_true e, Bool.or_true]
    · rw [if_neg e, decide_eq_false e, Bool.or_false]
  · refine ⟨fun b hb => ?_, fun k hk hn ht => ?_, hG.os.trans hba.os, hG.tape.trans hba.tape, hG.output.trans hba.output, ?_⟩
    · rcases hG.own b (mark_own hb) with q | q
      · exact .inl q
      · exact .inr (by omega)
    · have hkn : k ≠ nb := fun e => by
        subst e
        rcases hG.own k hnb with q | q
        · exact hn q
        · omega
      exact (Below.heap_setCell _ ⟨tb, 1, none⟩ _ k ht).trans ((Below.heap_setCell w2 ⟨nb, 1, none⟩ _ k hkn).trans ((hG.kept k (by omega) hn).trans (hba.block k hk)))
    · exact Nat.le_trans hsa (Nat.le_trans hG.size (Nat.le_trans (KeepsOthers.setCell w2 ⟨nb, 1, none⟩ (.bool true)).size (KeepsOthers.setCell _ ⟨tb, 1, none⟩ _).size))
set_option maxRecDepth 100000 in
set_option maxHeartbeats 4000000 in
theorem add_new {w : World} {tb N n B c : Nat} {A : Option Addr} {g : Gh} {zs : List Int} (T : TrieAt w tb N g n) (hW : WordAt B w A zs) (hB : B ≤ w.heap.size) (hBo : ∀ b, g.own b → B ≤ b) (h0 : 0 < zs.length) (hi : isWord g zs.reverse = false) (hN : N + zs.length < maxLen) (hn : n < 4611686018427387904) :
    Calls Try.prog 16 #[.pointer (some ⟨tb, 0, none⟩), .slice A zs.length c] w (Added w tb N n g zs) := by
  have hH := has_calls (c := c) T hW hB
  rw [hi] at hH
  have HH := Lib.hid hH
  have d1 : ((zs.length : Int) == 0) = false := by simp; intro e; rw [e] at h0; simp at h0
  have d2 : decide (zs.length = 0) = false := by simp; intro e; rw [e] at h0; simp at h0
  have HT := Lib.hid T
  have HW := Lib.hid hW
  have HBO := Lib.hid hBo
  have HN := Lib.hid hN
  have HI := Lib.hid hi
  clear T hW hi hH hN hBo h0
  go_enter Try.func16, Try.ntmps16
  go_wp2_with (go_at_call 29; refine HH.out.mono ?_; rintro e w1 ⟨rfl, hb⟩; have HB1 := Lib.hid hb; clear hb)
  have T1 := HT.out.below HB1.out
  have hs1 := HB1.out.size
  obtain ⟨rb, mb, hh, hobj, hroot⟩ := T1.obj
  have hct : w1.cell? ⟨tb, 0, none⟩ = some (.pointer (some ⟨rb, 0, none⟩)) := by unfold World.cell?; simp only [hobj]; rfl
  have hct2 := cell_old (.cells #[.slice A zs.length c] 22) hct
  have hb2 : Below w1.heap.size w1 (w1.alloc (.cells #[.slice A zs.length c] 22)).drew := below_dr ((Below.refl _ w1).alloc (Nat.le_refl _) _)
  have hF := find_make (B := B) (Bx := w1.heap.size) (c := c) (A := A) (zs := zs) (T1.tree.below hb2) hroot (((HW.out.below HB1.out).src c).drew1) HW.out.len HW.out.ok (Nat.le_trans (Nat.le_trans hB hs1) hb2.size) HBO.out HN.out
  rw [List.nil_append] at hF
  have hobj2 : (w1.alloc (.cells #[.slice A zs.length c] 22)).drew.heap[tb]? = some (.cells #[.pointer (some ⟨rb, 0, none⟩), .int .i64 (n : Int)] 72 (0, 0)) := (hb2.block _ (Array.getElem?_eq_some_iff.1 hobj).1).trans hobj
  have hltt : tb < w1.heap.size := (Array.getElem?_eq_some_iff.1 hobj).1
  have HF := Lib.hid hF
  have HB2 := Lib.hid hb2
  have HO2 := Lib.hid hobj2
  have HA := Lib.hid T1.apart
  have HRT := Lib.hid hroot
  clear hF hb2 hobj2 T1 hobj hroot
  go_region_with (first | (go_at_call 47; refine (back_calls _ _ _ _).mono ?_; rintro e w' ⟨rfl, rfl⟩) | (go_at_call 46; refine HF.out.mono ?_; rintro e w2 ⟨nb, mb2, h2, g', rfl, hG, hg, hdp⟩; have HDP := Lib.hid hdp; clear hdp; have hc1 := hG.tree.cell1 hg; have hf1 := hG.tree.frozen hg 1; have HG := Lib.hid hG; have HGG := Lib.hid hg; clear hG hg))
  all_goals
    obtain ⟨hcn, hfn, hE⟩ := add_end (HB1.out.trans (HB2.out.mono hs1)) HO2.out HA.out HRT.out HG.out HGG.out HDP.out
    have HE := Lib.hid hE
    clear hE
    go_wp2
    go_ret
    exact HE.out
end Go.Proofs.Yteaadpgammbdgaa.PA
