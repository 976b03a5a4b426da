/- A word goes from a trie: trie.Drop. -/
import Derived.Test.YteaadpgammbdgaaAdd
namespace Go.Proofs.Yteaadpgammbdgaa.PA
open Go.RowKit Go.Shelf Go.Proofs.YteaadpgammbdgaaW.PrintWords Go.Proofs.YteaadpgammbdgaaW.PrintLast Go.Proofs.YteaadpgammbdgaaW.PrintMore
set_option linter.unusedVariables false
set_option linter.unusedSimpArgs false

def Dropped (w : World) (tb N n : Nat) (g : Gh) (zs : List Int) (e : Ending) (w' : World) : Prop :=
  e = .returned (.bool true) ∧ ∃ g', TrieAt w' tb N g' (n - 1) ∧ (∀ q, isWord g' q = (isWord g q && !decide (q = zs.reverse))) ∧ Turned w w' tb g g' ∧ Deeper g g' 0
set_option maxRecDepth 100000 in
set_option maxHeartbeats 4000000 in
theorem drop_no {w : World} {tb N n B c : Nat} {A : Option Addr} {g : Gh} {zs : List Int} (T : TrieAt w tb N g n) (hW : WordAt B w A zs) (hB : B ≤ w.heap.size) (hi : isWord g zs.reverse = false) :
    Calls Try.prog 33 #[.pointer (some ⟨tb, 0, none⟩), .slice A zs.length c] w fun e w' => e = .returned (.bool false) ∧ Below w.heap.size w w' := by
  have hH := has_calls (c := c) T hW hB
  rw [hi] at hH
  have HH := Lib.hid hH
  clear T hW hB hi hH
  go_enter Try.func33, Try.ntmps33
  go_wp2_with (go_at_call 29; refine HH.out.mono ?_; rintro e w' ⟨rfl, hb⟩; have HB := Lib.hid hb; clear hb)
  go_ret
  exact ⟨rfl, HB.out⟩
theorem drop_end {w wa : World} {tb N n rb mb nb mb2 : Nat} {g : Gh} {zs : List Int} {hh h2 : Bool} (hba : Below w.heap.size w wa) (T : Tree w N g) (hobj : wa.heap[tb]? = some (.cells #[.pointer (some ⟨rb, 0, none⟩), .int .i64 (n : Int)] 72 (0, 0))) (hA : ¬ g.own tb) (hroot : g [] = some (rb, mb, hh)) (hn : 1 ≤ n)
    (hg : g zs.reverse = some (nb, mb2, h2)) :
    (wa.setCell ⟨nb, 1, none⟩ (.bool false)).cell? ⟨tb, 1, none⟩ = some (.int .i64 (n : Int)) ∧ (wa.setCell ⟨nb, 1, none⟩ (.bool false)).frozen? ⟨tb, 1, none⟩ = false ∧
      Dropped w tb N n g zs (.returned (.bool true)) ((wa.setCell ⟨nb, 1, none⟩ (.bool false)).setCell ⟨tb, 1, none⟩ (.int .i64 ((n : Int) - 1))) := by
  have hlt : tb < wa.heap.size := (Array.getElem?_eq_some_iff.1 hobj).1
  have hsa := hba.size
  have hown : ∀ k, g.own k → k ≠ tb := fun k hk e => by subst e; exact hA hk
  have hnb : g.own nb := ⟨_, _, _, _, hg, .inl rfl⟩
  have Ta := T.below hba
  have h3 : (wa.setCell ⟨nb, 1, none⟩ (.bool false)).heap[tb]? = some (.cells #[.pointer (some ⟨rb, 0, none⟩), .int .i64 (n : Int)] 72 (0, 0)) := (Below.heap_setCell wa ⟨nb, 1, none⟩ (.bool false) tb (fun e => hown nb hnb e.symm)).trans hobj
  have hT := Ta.mark hg false
  refine ⟨by unfold World.cell?; simp only [h3]; rfl, by unfold World.frozen?; simp [h3], rfl, g.mark zs.reverse false, ⟨hT.kept fun k hk => Below.heap_setCell _ ⟨tb, 1, none⟩ _ k (hown k (mark_own hk)), ?_⟩, fun q => ?_, ?_, fun r hr => .inl (mark_none hr)⟩
  · refine ⟨rb, mb, if [] = zs.reverse then false else hh, ?_, ?_⟩
    · have := heap_set h3 1 (.int .i64 ((n : Int) - 1))
      rw [this]
      have e : ((n - 1 : Nat) : Int) = (n : Int) - 1 := by omega
      rw [e]
      simp
    · unfold Gh.mark
      split
      · rename_i e
        rw [← e, hroot]; rfl
      · rw [hroot]
  · rw [mark_word hg]
    by_cases e : q = zs.reverse
    · rw [if_pos e, decide_eq_true e, Bool.not_true, Bool.and_false]
    · rw [if_neg e, decide_eq_false e, Bool.not_false, Bool.and_true]
  · refine ⟨fun b hb => .inl (mark_own hb), fun k hk hn2 ht => ?_, hba.os, hba.tape, hba.output, ?_⟩
    · have hkn : k ≠ nb := fun e => by subst e; exact hn2 hnb
      exact (Below.heap_setCell _ ⟨tb, 1, none⟩ _ k ht).trans ((Below.heap_setCell wa ⟨nb, 1, none⟩ _ k hkn).trans (hba.block k hk))
    · exact Nat.le_trans hsa (Nat.le_trans (KeepsOthers.setCell wa ⟨nb, 1, none⟩ (.bool false)).size (KeepsOthers.setCell _ ⟨tb, 1, none⟩ _).size)
set_option maxRecDepth 100000 in
set_option maxHeartbeats 4000000 in
theorem drop_yes {w : World} {tb N n B c : Nat} {A : Option Addr} {g : Gh} {zs : List Int} (T : TrieAt w tb N g n) (hW : WordAt B w A zs) (hB : B ≤ w.heap.size) (hi : isWord g zs.reverse = true) (hn : 1 ≤ n) (hn2 : n < 4611686018427387904) :
    Calls Try.prog 33 #[.pointer (some ⟨tb, 0, none⟩), .slice A zs.length c] w (Dropped w tb N n g zs) := by
  have hH := has_calls (c := c) T hW hB
  rw [hi] at hH
  have HH := Lib.hid hH
  obtain ⟨nb, mb2, hgz⟩ : ∃ nb mb2, g zs.reverse = some (nb, mb2, true) := by
    unfold isWord at hi
    cases hg : g zs.reverse with
    | none => rw [hg] at hi; cases hi
    | some y => obtain ⟨a, b, h⟩ := y; rw [hg] at hi; exact ⟨a, b, by rw [show h = true from hi]⟩
  have HT := Lib.hid T
  have HW := Lib.hid hW
  have HGZ := Lib.hid hgz
  have HN := Lib.hid hn
  clear T hW hi hH hgz hn
  go_enter Try.func33, Try.ntmps33
  go_wp2_with (go_at_call 29; refine HH.out.mono ?_; rintro e w1 ⟨rfl, hb⟩; have HB1 := Lib.hid hb; clear hb)
  have T1 := HT.out.below HB1.out
  have hs1 := HB1.out.size
  obtain ⟨rb, mb, hh, hobj, hroot⟩ := T1.obj
  have hct : w1.cell? ⟨tb, 0, none⟩ = some (.pointer (some ⟨rb, 0, none⟩)) := by unfold World.cell?; simp only [hobj]; rfl
  have hct2 := cell_old (.cells #[.slice A zs.length c] 22) hct
  have hb2 : Below w1.heap.size w1 (w1.alloc (.cells #[.slice A zs.length c] 22)).drew := below_dr ((Below.refl _ w1).alloc (Nat.le_refl _) _)
  have hF := find_false (B := B) (Bx := w1.heap.size) (c := c) (A := A) (zs := zs) (T1.tree.below hb2) hroot (((HW.out.below HB1.out).src c).drew1) HW.out.len HW.out.ok (Nat.le_trans (Nat.le_trans hB hs1) hb2.size)
  rw [List.nil_append, HGZ.out] at hF
  simp only [Option.map_some, ptr] at hF
  have hobj2 : (w1.alloc (.cells #[.slice A zs.length c] 22)).drew.heap[tb]? = some (.cells #[.pointer (some ⟨rb, 0, none⟩), .int .i64 (n : Int)] 72 (0, 0)) := (hb2.block _ (Array.getElem?_eq_some_iff.1 hobj).1).trans hobj
  have HF := Lib.hid hF
  have HB2 := Lib.hid hb2
  have HO2 := Lib.hid hobj2
  have HA := Lib.hid T1.apart
  have HRT := Lib.hid hroot
  clear hF hb2 hobj2 T1 hobj hroot
  go_region_with (first | (go_at_call 47; refine (back_calls _ _ _ _).mono ?_; rintro e w' ⟨rfl, rfl⟩) | (go_at_call 46; refine HF.out.mono ?_; rintro e w2 ⟨rfl, hb⟩; have hba := HB1.out.trans ((HB2.out.trans (hb.mono HB2.out.size)).mono hs1); have hT2 := HT.out.tree.below hba; have hc1 := hT2.cell1 HGZ.out; have hf1 := hT2.frozen HGZ.out 1; have hob2 := (hb.block _ (Array.getElem?_eq_some_iff.1 HO2.out).1).trans HO2.out; have HBA := Lib.hid hba; have HOB := Lib.hid hob2; clear hb hba hT2 hob2))
  all_goals
    obtain ⟨hcn, hfn, hE⟩ := drop_end HBA.out HT.out.tree HOB.out HA.out HRT.out HN.out HGZ.out
    have HE := Lib.hid hE
    have hn1 := HN.out
    clear hE
    go_wp2
    go_ret
    exact HE.out
end Go.Proofs.Yteaadpgammbdgaa.PA
