/- A trie: its words, by the tree; Has, New, Len. -/
import Derived.Test.YteaadpgammbdgaaFindNew
namespace Go.Proofs.Yteaadpgammbdgaa.PA
open Go.RowKit Go.Shelf Go.Proofs.YteaadpgammbdgaaW.PrintWords Go.Proofs.YteaadpgammbdgaaW.PrintLast Go.Proofs.YteaadpgammbdgaaW.PrintMore
set_option linter.unusedVariables false
set_option linter.unusedSimpArgs false

/-- A word that a slice holds. -/
structure WordAt (B : Nat) (w : World) (A : Option Addr) (zs : List Int) : Prop where
  row : Kd.C (Kd.int .i32) w A zs.length zs
  calm : ∀ a, A = some a → 0 < zs.length → Calm B w a.block
  ok : ∀ z ∈ zs, (Lit.int .i32 z).wf = true
  len : zs.length < 4611686018427387904
theorem WordAt.src {B : Nat} {w : World} {A : Option Addr} {zs : List Int} (h : WordAt B w A zs) (c : Nat) : SrcW B (w.alloc (.cells #[.slice A zs.length c] 22)) w.heap.size A c zs := by
  refine ⟨heap_alloc_new w _, Kd.C_alloc h.row _, fun a ha hn => ?_⟩
  obtain ⟨o, ho, hb⟩ := h.calm a ha hn
  exact ⟨o, (Below.heap_alloc _ _ _ (Array.getElem?_eq_some_iff.1 ho).1).trans ho, hb⟩
theorem WordAt.below {B : Nat} {w w' : World} {A : Option Addr} {zs : List Int} (h : WordAt B w A zs) (hb : Below w.heap.size w w') : WordAt B w' A zs := by
  refine ⟨Kd.C_below h.row hb, fun a ha hn => ?_, h.ok, h.len⟩
  obtain ⟨o, ho, hB⟩ := h.calm a ha hn
  exact ⟨o, (hb.block _ (Array.getElem?_eq_some_iff.1 ho).1).trans ho, hB⟩
theorem WordAt.drew {B : Nat} {w : World} {A : Option Addr} {zs : List Int} (h : WordAt B w A zs) (n : Nat) : WordAt B (w.drewN n) A zs := h.below (below_d (Below.refl _ _) n)
theorem below_dr {a b : World} (h : Below a.heap.size a b) : Below a.heap.size a b.drew := ⟨h.os, h.tape, h.output, h.size, h.block⟩
theorem Tree.drew1 {w : World} {N : Nat} {g : Gh} (T : Tree w N g) : Tree w.drew N g := T.below (below_dr (Below.refl _ _))
theorem SrcW.drew1 {B Bx c : Nat} {w : World} {A : Option Addr} {zs : List Int} (h : SrcW B w Bx A c zs) : SrcW B w.drew Bx A c zs := h.turn (B' := 0) ⟨rfl, rfl, rfl, Nat.le_refl _, fun _ _ q _ => q⟩
theorem Tree.drew {w : World} {N : Nat} {g : Gh} (T : Tree w N g) (n : Nat) : Tree (w.drewN n) N g := T.below (below_d (Below.refl _ _) n)
/-- Whether a path leads to a word. -/
def isWord (g : Gh) (q : List Int) : Bool := match g q with
  | some (_, _, h) => h
  | none => false
structure TrieAt (w : World) (tb N : Nat) (g : Gh) (n : Nat) : Prop where
  tree : Tree w N g
  obj : ∃ rb mb h, w.heap[tb]? = some (.cells #[.pointer (some ⟨rb, 0, none⟩), .int .i64 (n : Int)] 72 (0, 0)) ∧ g [] = some (rb, mb, h)
theorem TrieAt.below {w w' : World} {tb N n : Nat} {g : Gh} (h : TrieAt w tb N g n) (hb : Below w.heap.size w w') : TrieAt w' tb N g n := by
  obtain ⟨rb, mb, hh, h1, h2⟩ := h.obj
  exact ⟨h.tree.below hb, rb, mb, hh, (hb.block _ (Array.getElem?_eq_some_iff.1 h1).1).trans h1, h2⟩
set_option maxRecDepth 100000 in
set_option maxHeartbeats 4000000 in
theorem has_calls {w : World} {tb N n B c : Nat} {A : Option Addr} {g : Gh} {zs : List Int} (T : TrieAt w tb N g n) (hW : WordAt B w A zs) (hB : B ≤ w.heap.size) :
    Calls Try.prog 29 #[.pointer (some ⟨tb, 0, none⟩), .slice A zs.length c] w fun e w' => e = .returned (.bool (isWord g zs.reverse)) ∧ Below w.heap.size w w' := by
  obtain ⟨rb, mb, hh, hobj, hroot⟩ := T.obj
  have hct : w.cell? ⟨tb, 0, none⟩ = some (.pointer (some ⟨rb, 0, none⟩)) := by unfold World.cell?; simp only [hobj]; rfl
  have hct2 := cell_old (.cells #[.slice A zs.length c] 22) hct
  have hb1 : Below w.heap.size w (w.alloc (.cells #[.slice A zs.length c] 22)).drew := below_dr ((Below.refl _ w).alloc (Nat.le_refl _) _)
  have hF := find_false (B := B) (Bx := w.heap.size) (c := c) (A := A) (zs := zs) (T.tree.below hb1) hroot ((hW.src c).drew1) hW.len hW.ok (Nat.le_trans hB hb1.size)
  have HT1 := Lib.hid (T.tree.below hb1)
  have HB1 := Lib.hid hb1
  rw [List.nil_append] at hF
  unfold isWord
  clear T hobj hW hroot hb1 hB
  cases hg : g zs.reverse with
  | none =>
    rw [hg] at hF
    simp only [Option.map_none, ptr] at hF
    have HF := Lib.hid hF
    clear hF hg
    go_enter Try.func29, Try.ntmps29
    go_wp2
    go_region_with (first | (go_at_call 47; refine (back_calls _ _ _ _).mono ?_; rintro e w' ⟨rfl, rfl⟩) | (go_at_call 46; refine HF.out.mono ?_; rintro e w' ⟨rfl, hb⟩; have HB2 := Lib.hid (HB1.out.trans (hb.mono HB1.out.size)); clear hb))
    all_goals
      go_wp2
      go_ret
      exact ⟨rfl, HB2.out⟩
  | some y =>
    obtain ⟨b, mb2, h2⟩ := y
    rw [hg] at hF
    simp only [Option.map_some, ptr] at hF
    have HF := Lib.hid hF
    have HG := Lib.hid hg
    clear hF hg
    go_enter Try.func29, Try.ntmps29
    go_wp2
    go_region_with (first | (go_at_call 47; refine (back_calls _ _ _ _).mono ?_; rintro e w' ⟨rfl, rfl⟩) | (go_at_call 46; refine HF.out.mono ?_; rintro e w' ⟨rfl, hb⟩; have hc1 := (HT1.out.below hb).cell1 HG.out; have HB2 := Lib.hid (HB1.out.trans (hb.mono HB1.out.size)); clear hb))
    all_goals
      go_wp2
      go_ret
      exact ⟨rfl, HB2.out⟩
set_option maxRecDepth 100000 in
set_option maxHeartbeats 1000000 in
theorem new_calls (w : World) : Calls Try.prog 15 #[] w fun e w' => e = .returned (.pointer (some ⟨w.heap.size + 1 + 1, 0, none⟩)) ∧ w' = ((w.alloc (.map #[] 0)).alloc (.cells #[.map (some w.heap.size), .bool false] 70)).alloc (.cells #[.pointer (some ⟨w.heap.size + 1, 0, none⟩), .int .i64 0] 72) := by
  have hmm := run_makeMap (P := Try.prog) 68 w
  go_enter Try.func15, Try.ntmps15
  go_wp2
  go_ret
  exact ⟨rfl, rfl⟩
theorem TrieAt.made (w : World) : TrieAt (((w.alloc (.map #[] 0)).alloc (.cells #[.map (some w.heap.size), .bool false] 70)).alloc (.cells #[.pointer (some ⟨w.heap.size + 1, 0, none⟩), .int .i64 0] 72)) (w.heap.size + 1 + 1) 0 (gNew w) 0 := by
  refine ⟨Tree.made w _ ?_ ?_, w.heap.size + 1, w.heap.size, false, ?_, rfl⟩
  · exact (Below.heap_alloc _ _ _ (by simp; omega)).trans ((Below.heap_alloc _ _ _ (by simp)).trans (World.alloc_heap_new w _))
  · refine (Below.heap_alloc _ _ _ (by simp)).trans ?_
    have := World.alloc_heap_new (w.alloc (.map #[] 0)) (.cells #[.map (some w.heap.size), .bool false] 70); rwa [World.size_alloc] at this
  · have := World.alloc_heap_new ((w.alloc (.map #[] 0)).alloc (.cells #[.map (some w.heap.size), .bool false] 70)) (.cells #[.pointer (some ⟨w.heap.size + 1, 0, none⟩), .int .i64 0] 72); rwa [World.size_alloc, World.size_alloc] at this
set_option maxHeartbeats 1000000 in
theorem len_calls {w : World} {tb N n : Nat} {g : Gh} (T : TrieAt w tb N g n) : Calls Try.prog 18 #[.pointer (some ⟨tb, 0, none⟩)] w fun e w' => e = .returned (.int .i64 (n : Int)) ∧ w' = w := by
  obtain ⟨rb, mb, hh, hobj, _⟩ := T.obj
  have hct : w.cell? ⟨tb, 1, none⟩ = some (.int .i64 (n : Int)) := by unfold World.cell?; simp only [hobj]; rfl
  clear T hobj
  go_enter Try.func18, Try.ntmps18
  go_wp2
  go_ret
  exact ⟨rfl, rfl⟩
end Go.Proofs.Yteaadpgammbdgaa.PA
