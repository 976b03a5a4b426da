/- A step down the tree: where a code point leads; a new node, where one is to be made. -/
import Derived.Test.YteaadpgammbdgaaTree
import Derived.Carry
namespace Go.Proofs.Yteaadpgammbdgaa.PA
open Go.RowKit Go.Proofs.YteaadpgammbdgaaW.PrintWords Go.Proofs.YteaadpgammbdgaaW.PrintLast Go.Proofs.YteaadpgammbdgaaW.PrintMore
set_option linter.unusedVariables false
set_option linter.unusedSimpArgs false

set_option maxRecDepth 100000 in
set_option maxHeartbeats 1000000 in
theorem down_false {w : World} {N : Nat} {g : Gh} (T : Tree w N g) {p : List Int} {nb mb : Nat} {h : Bool} (hp : g p = some (nb, mb, h)) (c : Int) (hc : (Lit.int .i32 c).wf = true) :
    Calls Try.prog 48 #[.pointer (some ⟨nb, 0, none⟩), .int .i32 c, .bool false] w fun e w' => e = .returned (ptr ((g (p ++ [c])).map (·.1))) ∧ w' = w := by
  have hl := (T.map _ _ _ _ hp).lookup c hc
  have h0 := T.cell0 hp
  generalize (g (p ++ [c])).map (·.1) = o at hl
  clear T hp
  cases o with
  | none =>
    simp only [ptr] at hl ⊢
    go_enter Try.func48, Try.ntmps48
    go_wp2
    go_ret
    exact ⟨rfl, rfl⟩
  | some b =>
    simp only [ptr] at hl ⊢
    go_enter Try.func48, Try.ntmps48
    go_wp2
    go_ret
    exact ⟨rfl, rfl⟩
set_option maxRecDepth 100000 in
set_option maxHeartbeats 1000000 in
theorem down_there {w : World} {N : Nat} {g : Gh} (T : Tree w N g) {p : List Int} {nb mb : Nat} {h : Bool} (hp : g p = some (nb, mb, h)) (c : Int) (hc : (Lit.int .i32 c).wf = true) (nb' mb' : Nat) (h' : Bool) (hn : g (p ++ [c]) = some (nb', mb', h')) :
    Calls Try.prog 48 #[.pointer (some ⟨nb, 0, none⟩), .int .i32 c, .bool true] w fun e w' => e = .returned (.pointer (some ⟨nb', 0, none⟩)) ∧ w' = w := by
  have hl := (T.map _ _ _ _ hp).lookup c hc
  have h0 := T.cell0 hp
  rw [hn] at hl
  simp only [Option.map_some, ptr] at hl
  clear T hp hn
  go_enter Try.func48, Try.ntmps48
  go_wp2
  go_ret
  exact ⟨rfl, rfl⟩
set_option maxRecDepth 100000 in
set_option maxHeartbeats 1000000 in
theorem down_make {w : World} {N : Nat} {g : Gh} (T : Tree w N g) {p : List Int} {nb mb : Nat} {h : Bool} (hp : g p = some (nb, mb, h)) (c : Int) (hc : (Lit.int .i32 c).wf = true) (hn : g (p ++ [c]) = none) (hN : N < maxLen) :
    Calls Try.prog 48 #[.pointer (some ⟨nb, 0, none⟩), .int .i32 c, .bool true] w fun e w' => e = .returned (.pointer (some ⟨w.heap.size + 1, 0, none⟩)) ∧ Tree w' (N + 1) (g.grow p c (w.heap.size + 1) w.heap.size) ∧ w.grownBy w' (some mb) := by
  have hM := T.map _ _ _ _ hp
  have hl := hM.lookup c hc
  have h0 := T.cell0 hp
  rw [hn] at hl
  simp only [Option.map_none, ptr] at hl
  obtain ⟨w2, e2⟩ : ∃ w2, (w.alloc (.map #[] 0)).alloc (.cells #[.map (some w.heap.size), .bool false] 70) = w2 := ⟨_, rfl⟩
  have hsz : w2.heap.size = w.heap.size + 1 + 1 := by rw [← e2]; simp
  have hold : ∀ b, b < w.heap.size → w2.heap[b]? = w.heap[b]? := fun b hb => by
    rw [← e2]; exact (Below.heap_alloc _ _ b (by simp; omega)).trans (Below.heap_alloc _ _ b hb)
  have hm2 : w2.heap[w.heap.size]? = some (.map #[] 0) := by
    rw [← e2]; exact (Below.heap_alloc _ _ _ (by simp)).trans (World.alloc_heap_new w _)
  have hc2 : w2.heap[w.heap.size + 1]? = some (.cells #[.map (some w.heap.size), .bool false] 70 (0, 0)) := by
    rw [← e2]; have := World.alloc_heap_new (w.alloc (.map #[] 0)) (.cells #[.map (some w.heap.size), .bool false] 70); rwa [World.size_alloc] at this
  obtain ⟨w3, hrun, hM3, hg3⟩ := (hM.same (hold mb hM.lt)).update hN c hc (w.heap.size + 1)
  have hg2 : w.grownBy w2 (some mb) := by
    rw [← e2]; exact (World.grownBy_alloc w _ _).trans (World.grownBy_alloc _ _ _)
  have T3 : Tree w3 (N + 1) (g.grow p c (w.heap.size + 1) w.heap.size) := by
    refine T.grow hp hn ?_ ?_ (fun b hb hne => ?_) hM3
    · exact (hg3.block _ (by omega) (fun e => by have := hM.lt; cases e; omega)).trans hm2
    · exact (hg3.block _ (by omega) (fun e => by have := hM.lt; cases e; omega)).trans hc2
    · exact (hg3.block _ (by omega) (fun e => hne (by cases e; rfl))).trans (hold b hb)
  have HT := Lib.hid T3
  have HG := Lib.hid (hg2.trans hg3)
  rw [← e2] at hrun
  have h02 := cell_old (.cells #[.map (some w.heap.size), .bool false] 70) (cell_old (.map #[] 0) h0)
  have hmm := run_makeMap (P := Try.prog) 68 w
  clear T hp hn hM hM3 hg3 hg2 T3 hm2 hc2 hold hsz e2
  go_enter Try.func48, Try.ntmps48
  go_wp2
  go_ret
  exact ⟨rfl, HT.out, HG.out⟩
end Go.Proofs.Yteaadpgammbdgaa.PA
