/- slices.Sorted at int32 of an iterator; slices.Compact of a row of the call's own; classes.ends. -/
import Derived.Test.YtnfnnmmblommiaaCEnds
import Derived.Test.YtnfnnmmblommiaaSortTop
import Derived.Test.YtnfnnmmblommiaaCShelf
import Derived.Shelf.SlicesE.Compact
namespace Go.Proofs.Ytnfnnmmblommiaa.PA
open Go.RowKit Go.Shelf Go.Lib Go.Proofs.YtnfnnmmblommiaaW.PrintWords Go.Proofs.YtnfnnmmblommiaaW.PrintLast Go.Proofs.YtnfnnmmblommiaaW.PrintMore
open Go.Sort (Holds putRow putCells)
set_option linter.unusedVariables false
set_option linter.unusedSimpArgs false

/-- A list in order, each element as often as in the other. -/
structure InOrder (ys xs : List Int) : Prop where
  perm : ys.Perm xs
  le : ys.Pairwise (fun x y => x ≤ y)
set_option maxHeartbeats 1000000 in
theorem sorted32_calls (gf : Nat) (lb : Array Value) (xs : List Int) (hne : xs ≠ []) (hl : xs.length < 1000000000) (eg : ∀ args w, (callFunc gf args).run Try.prog w = .ok (.enter gf args) w) (W : World) (hit : ∀ W', Below W.heap.size W W' → Iter Try.prog W.heap.size gf lb (fun x : Int => #[Value.int .i32 x]) xs W') :
    Calls Try.prog 50 #[.func (.func gf) #[] lb] W fun e w' => ∃ g n c ys, e = .returned (.slice (some ⟨g, 0, none⟩) n c) ∧ Kd.R (Kd.int .i32) 21 w' W.heap.size (fun _ => True) (.slice (some ⟨g, 0, none⟩) n c) ys ∧ Below W.heap.size W w' ∧ InOrder ys xs := by
  have HC := Lib.hid (collect_calls gf lb xs hl eg W hit)
  clear hit
  go_enter Try.func50, Try.ntmps50
  go_wp2_with fail
  refine HC.out.mono ?_
  rintro e w1 ⟨v, rfl, hR, hB⟩
  have hshape : ∃ g n c, v = .slice (some ⟨g, 0, none⟩) n c := by
    obtain ⟨_, inner, ho, _⟩ := id hR
    rcases ho.2 with ⟨_, h⟩ | ⟨g, cap, cur, he, _⟩
    · exact absurd (List.eq_nil_of_length_eq_zero h) hne
    · exact ⟨g, _, cap, he⟩
  obtain ⟨g, n, c, rfl⟩ := hshape
  have HS := Lib.hid (sort_row W.heap.size c g (fun _ => True) w1 n xs hR (by omega))
  have HB := Lib.hid hB
  clear hR hB HC
  go_wp2_with fail
  refine HS.out.mono ?_
  rintro e w2 ⟨rfl, ys, hR, hp, hs, hB2⟩
  have H := Lib.hid (And.intro hR (And.intro hp (And.intro hs hB2)))
  clear hR hp hs hB2 HS
  go_wp2
  go_ret
  exact ⟨g, n, c, ys, rfl, H.out.1, HB.out.trans H.out.2.2.2, H.out.2.1, H.out.2.2.1⟩
theorem put32 (W : World) (g m : Nat) (d : Array Int) : putRow enc32 (Go.Sort.ahead W m) g 0 d = Go.Proofs.sortWorldK enc32L 1 W g 0 m d #[] := by
  rw [← sortWorld32]; unfold sortWorld; rw [Go.Sort.grow_empty]
def compactL (ys : List Int) : List Int := compactUpTo ys.toArray ys.length
theorem compactL_length (ys : List Int) : (compactL ys).length ≤ ys.length := by
  unfold compactL compactUpTo
  rw [List.length_map]
  exact Nat.le_trans (List.length_filter_le _ _) (by simp)
theorem compact_calls (base g n c : Nat) (W : World) (ys : List Int) (hR : Kd.R (Kd.int .i32) 21 W base (fun _ => True) (.slice (some ⟨g, 0, none⟩) n c) ys) (hl : ys.length < 1000000000) :
    Calls Try.prog 49 #[.slice (some ⟨g, 0, none⟩) n c] W fun e w' => e = .returned (.slice (some ⟨g, 0, none⟩) (compactL ys).length c) ∧ Kd.R (Kd.int .i32) 21 w' base (fun _ => True) (.slice (some ⟨g, 0, none⟩) (compactL ys).length c) (compactL ys) ∧ Below base W w' := by
  have hopen : ∀ W base ok p cs, (Kd.int .i32).M W base ok p cs → cs = enc32L p := fun _ _ _ _ _ h => h
  obtain ⟨hH, cur, hh, hn, h1, h2, h3, hb, hok⟩ := R_holdsK (enc := enc32L) (k := 1) hR rfl hopen (fun _ => rfl) (by omega)
  subst hn
  have hg : g < W.heap.size := (Array.getElem?_eq_some_iff.1 hh).1
  have hc := AnyE.slices_Compact Try.compact32 enc32 one32 (EqlAt.intD _ _ .i32) (NeqAt.intD _ _ .i32) 0 (fun w => by kernel_rfl) g 0 c ys.toArray W (holds32 hH) (by simp; omega) (by simpa using h1)
  rw [List.size_toArray] at hc
  refine hc.mono ?_
  rintro e w' ⟨rfl, q, rfl⟩
  have hle := compactL_length ys
  refine ⟨rfl, ?_, ?_⟩
  · rw [put32]
    have hz : compactUpTo ys.toArray ys.length = compactL ys := rfl
    rw [hz]
    have h4 := sorted_R (enc := enc32L) (k := 1) (m := q) (compactL ys ++ List.replicate (ys.length - (compactL ys).length) 0).toArray #[] hR rfl hopen (fun _ _ _ _ => rfl) (fun _ => rfl) Nat.one_pos (by
      simp only [List.size_toArray, List.length_append, List.length_replicate]
      omega)
    have h5 := Kd.R_take (m := (compactL ys).length) h4 (by simp)
    have h6 : List.take (compactL ys).length (compactL ys ++ List.replicate (ys.length - (compactL ys).length) 0).toArray.toList = compactL ys := by simp
    rw [h6] at h5
    exact h5
  · rw [put32]; exact sorted_below _ #[] hb hg
set_option maxHeartbeats 1000000 in
theorem ends_calls (A : Option Addr) (n c : Nat) (w : World) : Calls Try.prog 51 #[.slice A n c] w fun e w' => e = .returned (.func (.func 65) #[] #[.pointer (some ⟨w.heap.size, 0, none⟩)]) ∧ w' = w.alloc (.cells #[.slice A n c] 39) := by
  go_enter Try.func51, Try.ntmps51
  go_wp2
  go_ret
  exact ⟨rfl, rfl⟩
/-- Sorted(ends(sets)). -/
theorem sorted_ends (w : World) (A : Option Addr) (c : Nat) (sets : List (List Rg)) (hl : sets.length < 1000) (hls : ∀ l ∈ sets, l.length < 100000) (hr : Kd.C (Kd.slice 41 k41) w A sets.length sets) (hx : (endsL sets).length < 1000000000) :
    Calls Try.prog 50 #[.func (.func 65) #[] #[.pointer (some ⟨w.heap.size, 0, none⟩)]] (w.alloc (.cells #[.slice A sets.length c] 39)) fun e w' => ∃ g n cc ys, e = .returned (.slice (some ⟨g, 0, none⟩) n cc) ∧ Kd.R (Kd.int .i32) 21 w' w.heap.size (fun _ => True) (.slice (some ⟨g, 0, none⟩) n cc) ys ∧ Below w.heap.size w w' ∧ InOrder ys (endsL sets) := by
  have hb := (Below.refl w.heap.size w).alloc (Nat.le_refl _) (.cells #[.slice A sets.length c] 39)
  refine (sorted32_calls 65 #[.pointer (some ⟨w.heap.size, 0, none⟩)] (endsL sets) (by simp [endsL]) hx (enters_of Try.func65 (by kernel_rfl) rfl) _ fun W' hW => ?_).mono ?_
  · exact ends1_iter _ _ w.heap.size A c sets (by omega) (fun l hl => by have := hls l hl; omega) (cell_new 0 rfl) (Kd.C_below hr hb) (Nat.le_refl _) W' hW
  · rintro e w' ⟨g, n, cc, ys, rfl, hR, hB, hO⟩
    exact ⟨g, n, cc, ys, rfl, Kd.R_lower hR (by simp), hb.trans (hB.mono (by simp)), hO⟩
end Go.Proofs.Ytnfnnmmblommiaa.PA
