/- slices.Sort at int32, by hand: a row of the call's own is put in order. -/
import Derived.Test.YtnfnnmmblommiaaSortPdq
import Derived.Test.YtnfnnmmblommiaaHSort
import Derived.Shelf.SlSortCmp.Xorshift
namespace Go.Proofs.Ytnfnnmmblommiaa.PA
open Go.RowKit Go.Shelf Go.Lib Go.Sort Go.Proofs.YtnfnnmmblommiaaW.PrintWords Go.Proofs.YtnfnnmmblommiaaW.PrintLast Go.Proofs.YtnfnnmmblommiaaW.PrintMore
set_option linter.unusedVariables false
set_option linter.unusedSimpArgs false

theorem bitsLen_calls (n : Nat) (hn : n < 4611686018427387904) (w : World) : Calls Try.prog 74 #[.int .u64 (n : Int)] w fun e w' => e = .returned (.int .i64 (bitsLen n : Nat)) ∧ w' = w := by
  have h := Any.bits_Len (SlLaysF0.n15.bits Try.bLen) (n : Int) w (by omega) (by omega)
  rwa [Int.toNat_natCast, bitLen_eq _ (by omega)] at h
theorem one32 : OneCell enc32 := fun _ => rfl
def enc32L (x : Int) : List Value := [.int .i32 x]
theorem flat32 (d : Array Int) : putCells id 0 (flatK enc32L 1 d) = putCells enc32 0 d := by
  funext c
  unfold putCells
  apply Array.ext_getElem?
  intro i
  simp only [Array.getElem?_mapIdx, size_flatK, Nat.mul_one, Nat.zero_add, Nat.sub_zero, Nat.zero_le, true_and]
  by_cases h : i < d.size
  · simp only [h, if_true]
    rw [get_flatK _ _ _ _ (by omega)]
    simp [enc32L, Nat.mod_one]
  · simp only [h, if_false]
theorem sortWorld32 (W : World) (g m : Nat) (d : Array Int) (os : Array Obj) : sortWorld enc32 W g 0 m d os = sortWorldK enc32L 1 W g 0 m d os := by
  unfold sortWorld sortWorldK putRowK putRow
  rw [flat32]
theorem holds32 {W : World} {g : Nat} {d : Array Int} (h : HoldsK enc32L 1 W g 0 d) : Holds enc32 W g 0 d := by
  intro j hj
  have := h j (by rw [size_flatK]; omega)
  rw [get_flatK _ _ _ _ (by omega)] at this
  simpa [enc32L, Nat.mod_one] using this
set_option maxRecDepth 100000 in
set_option maxHeartbeats 2000000 in
theorem sort_walk (g c : Nat) (d : Array Int) (w : World) (hH : Holds enc32 w g 0 d) (hg : g < w.heap.size) (hsz : d.size < 1152921504606846976) :
    Calls Try.prog 64 #[.slice (some ⟨g, 0, none⟩) d.size c] w fun e w' => e = .returned (.tuple #[]) ∧ SW enc32 w g 0 (Go.Sort.sort ltInt d) w' := by
  have hbl : bitsLen d.size ≤ 63 := (bitsLen_le_iff d.size 63).2 (by omega)
  have HP := Lib.hid (pdq_walk g 0 c d w ⟨one32, hH, hg⟩ (d.size + 1) 0 d.size (bitsLen d.size) d w (by omega) rfl (SW.start hH) (Nat.zero_le _) (Nat.le_refl _) hsz (by omega) (Or.inl rfl))
  have HB := Lib.hid (fun W => bitsLen_calls d.size (by omega) W)
  have HE : Hid (Go.Sort.sort ltInt d = pdq ltInt d 0 d.size (bitsLen d.size) true true) := Lib.hid rfl
  generalize bitsLen d.size = bl at HP HB HE hbl
  have wr : IntKind.u64.wrap (d.size : Int) = d.size := by simp [IntKind.wrap, IntKind.bits, IntKind.signed]; omega
  clear hH
  go_enter Try.func64, Try.ntmps64
  go_wp2_with fail
  refine (HB.out _).mono ?_
  rintro e w1 ⟨rfl, rfl⟩
  go_wp2_with fail
  refine HP.out.mono ?_
  rintro e w1 ⟨rfl, hw⟩
  have HW := Lib.hid hw
  clear hw HP HB
  go_wp2
  go_end0
  exact ⟨rfl, by rw [HE.out]; exact HW.out⟩
theorem sort_row (base c g : Nat) (ok : Nat → Prop) (W : World) (n : Nat) (xs : List Int) (h : Kd.R (Kd.int .i32) 21 W base ok (.slice (some ⟨g, 0, none⟩) n c) xs) (hsz : xs.length < 1152921504606846976) :
    Calls Try.prog 64 #[.slice (some ⟨g, 0, none⟩) n c] W fun e w' => e = .returned (.tuple #[]) ∧ ∃ ys : List Int, Kd.R (Kd.int .i32) 21 w' base ok (.slice (some ⟨g, 0, none⟩) n c) ys ∧ ys.Perm xs ∧ ys.Pairwise (fun x y => x ≤ y) ∧ Go.RowKit.Below base W w' := by
  have hopen : ∀ W base ok p cs, (Kd.int .i32).M W base ok p cs → cs = enc32L p := fun _ _ _ _ _ h => h
  obtain ⟨hH, cur, hh, hn, h1, h2, h3, hb, hok⟩ := R_holdsK (enc := enc32L) (k := 1) h rfl hopen (fun _ => rfl) (by omega)
  subst hn
  have hg : g < W.heap.size := (Array.getElem?_eq_some_iff.1 hh).1
  have hc := sort_walk g c xs.toArray W (holds32 hH) hg (by simpa using hsz)
  rw [List.size_toArray] at hc
  refine hc.mono ?_
  rintro e w' ⟨rfl, m, os, rfl⟩
  obtain ⟨hp, hs⟩ := sort_sorts ltInt swoInt xs.toArray
  generalize Go.Sort.sort ltInt xs.toArray = d' at hp hs
  have hd : d'.size = xs.length := by simpa using hp.1
  rw [sortWorld32]
  refine ⟨rfl, d'.toList, sorted_R d' os h rfl hopen (fun _ _ _ _ => rfl) (fun _ => rfl) (by omega) hd, ?_, ?_, sorted_below d' os hb hg⟩
  · have := hp.2.2
    rw [List.size_toArray, show d'.extract 0 xs.length = d' by rw [← hd]; exact Array.extract_size, show xs.toArray.extract 0 xs.length = xs.toArray from by rw [← List.size_toArray]; exact Array.extract_size] at this
    simpa using this
  · rw [List.pairwise_iff_getElem]
    intro i j hi hj hij
    simp only [Array.length_toList] at hi hj
    have := hs i j (Nat.zero_le _) hij (by simpa [hd] using hj)
    rw [getElem!_pos d' j hj, getElem!_pos d' i hi] at this
    simp only [ltInt, decide_eq_false_iff_not] at this
    simp only [Array.getElem_toList]
    omega
end Go.Proofs.Ytnfnnmmblommiaa.PA
