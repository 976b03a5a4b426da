/- uniset.sorted: by hand: slices.SortFunc by the kit's shelf. -/
import Derived.Test.YtnfnnmmblommiaaHSorted
import Derived.Test.YtnfnnmmblommiaaSortGlue
import Derived.Test.YtnfnnmmblommiaaHShelf
import Derived.Shelf.SlSortCmp.NoneTotal
import Derived.Test.YtnfnnmmblommiaaPAx2
namespace Go.Proofs.Ytnfnnmmblommiaa.PA
open Go.RowKit Go.Proofs.YtnfnnmmblommiaaW.PrintWords Go.Proofs.YtnfnnmmblommiaaW.PrintLast Go.Proofs.YtnfnnmmblommiaaW.PrintMore
open Go.Shelf Go.Lib
open Go.Sort (flatK get_flatK size_flatK HoldsK SWO PermIn SortedIn)
set_option linter.unusedVariables false
set_option linter.unusedSimpArgs false

instance : Inhabited Sp := ⟨z99⟩
def encSp (x : Sp) : List Value := [.int .i32 x.f0, .int .i32 x.f1]
def cfSp (x y : Sp) : Int := Lib.compareInt x.f0 y.f0
theorem ltSp (x y : Sp) : ltOf cfSp x y = decide (x.f0 < y.f0) := by
  unfold ltOf cfSp Lib.compareInt
  by_cases h1 : x.f0 < y.f0
  · simp [h1]
  · by_cases h2 : y.f0 < x.f0 <;> simp [h1, h2]
theorem swoSp : SWO (ltOf cfSp) where
  irrefl x := by rw [ltSp]; simp
  trans x y z h1 h2 := by rw [ltSp] at *; simp at *; omega
  ntrans x y z h1 h2 := by rw [ltSp] at *; simp at *; omega
theorem compare_cf (a b : Int) : cmp_Compare_int32.f a b = some (Lib.compareInt a b) := by
  unfold cmp_Compare_int32.f cmp_isNaN_int32.f Lib.compareInt
  by_cases h1 : a < b
  · simp [h1]
  · by_cases h2 : b < a
    · simp [h1, h2]
    · simp [h1, h2]
theorem drewN_grow (w : World) (os : Array Obj) : ∀ n, (Go.Sort.grow w os).drewN n = Go.Sort.grow (w.drewN n) os := fun n => rfl
set_option maxHeartbeats 1000000 in
theorem closure_cf (x y : Sp) (W : World) : Calls Try.prog 70 #[.agg #[.int .i32 x.f0, .int .i32 x.f1], .agg #[.int .i32 y.f0, .int .i32 y.f1]] W fun e w' => e = .returned (.int .i64 (cfSp x y)) ∧ ∃ q os', w' = Go.Sort.grow (W.drewN q) os' := by
  have hcon := fun W' => cmp_Compare_int32.calls x.f0 y.f0 _ W' (compare_cf x.f0 y.f0)
  have hu := Try.underlying99
  unfold cfSp
  generalize Lib.compareInt x.f0 y.f0 = r at hcon ⊢
  go_enter Try.func70, Try.ntmps70
  go_wp2_with (go_at_call 71; refine (hcon _).mono ?_; rintro e w' ⟨rfl, ⟨⟨nq, rfl⟩⟩⟩)
  go_ret
  exact ⟨rfl, nq, #[_, _], by rw [Go.Sort.alloc_eq_grow, Go.Sort.alloc_eq_grow, Go.Sort.grow_grow]; exact drewN_grow _ _ _⟩
theorem cmpLays (blk off size : Nat) (w : World) : CmpLays Try.prog 70 #[] encSp 2 cfSp blk off size w := fun _ _ _ _ x y => closure_cf x y _

theorem sorted_calls (A0 : Option Addr) (c0 : Nat) (l0 : List Rg) (w : World) (hr0 : Kd.C k41 w A0 l0.length l0) (hc0 : l0.length ≤ c0) (hn : l0.length < 1099511627776) :
    Calls Try.prog 62 #[.slice A0 l0.length c0] w fun e w' => ∃ v d, e = .returned v ∧ Kd.R k99 99 w' w.heap.size (fun _ => True) v d ∧ Below w.heap.size w w' ∧ d.Perm (spans l0) ∧ d.Pairwise (fun x y => x.f0 ≤ y.f0) := by
  refine (sorted_walk A0 c0 l0 w hr0 hc0 hn (fun _ _ d _ => d.Perm (spans l0) ∧ d.Pairwise (fun x y => x.f0 ≤ y.f0)) ?_).mono ?_
  · intro v W hR hB
    have hlen := spans_length l0
    obtain ⟨A, c, rfl, hlc, _⟩ := Kd.R_reads hR
    cases A with
    | none =>
      have h0 : (spans l0).length = 0 := by
        obtain ⟨_, inner, ho, _⟩ := hR
        rcases ho.2 with ⟨_, h⟩ | ⟨g, cap, cur, he, _⟩
        · exact h
        · cases he
      have hnil : spans l0 = [] := List.eq_nil_of_length_eq_zero h0
      have hc := AnyF.slices_SortFunc_none { Try.sortSpan with } none c (.func (.func 70) #[] #[]) W
      rw [h0]
      refine hc.mono ?_
      rintro e w' ⟨rfl, rfl⟩
      refine ⟨rfl, [], ?_, hB, by rw [hnil], List.Pairwise.nil⟩
      rw [hnil] at hR
      simpa using hR
    | some ad =>
      obtain ⟨_, inner, ho, _⟩ := id hR
      rcases ho.2 with ⟨he, _⟩ | ⟨g, cap, cur, he, hg, _⟩
      · cases he
      · injection he with e1 e2 e3
        injection e1 with e1
        subst e1
        obtain ⟨hH, cur', hh, _, _, _, _, hbase, _⟩ := R_holdsK (enc := encSp) (k := 2) hR rfl (fun _ _ _ p cs h => k99_openM h) (fun _ => rfl) (by omega)
        have hblk : g < W.heap.size := (Array.getElem?_eq_some_iff.1 hh).1
        have eg : ∀ args w, (callFunc 70 args).run Try.prog w = .ok (.enter 70 args) w := enters_of Try.func70 (by kernel_rfl) rfl
        have hcon := AnyQ.slices_SortFunc Try.sortSpan 2 Try.isAgg99 Try.sizeOf99 encSp (fun _ => rfl) (fun x v hv => by simp [encSp] at hv; rcases hv with rfl | rfl <;> rfl) cfSp swoSp 70 #[] g 0 c (spans l0).toArray W eg (cmpLays g 0 _ W) hH hblk (by simp; omega)
        rw [List.size_toArray] at hcon
        refine hcon.mono ?_
        rintro e w' ⟨rfl, d', n, os, hp, hs, rfl⟩
        have hd : d'.size = (spans l0).length := hp.1
        refine ⟨rfl, d'.toList, sorted_R d' os hR rfl (fun _ _ _ p cs h => k99_openM h) (fun _ _ _ p => k99_mkM _ _ _ p) (fun _ => rfl) (by omega) hd, hB.trans (sorted_below d' os hbase hblk), ?_, ?_⟩
        · have := hp.2.2
          rw [show d'.extract 0 (spans l0).length = d' by rw [← hd]; exact Array.extract_size, show (spans l0).toArray.extract 0 (spans l0).length = (spans l0).toArray from by rw [← List.size_toArray]; exact Array.extract_size] at this
          simpa using this
        · rw [List.pairwise_iff_getElem]
          intro i j hi hj hij
          simp only [Array.length_toList] at hi hj
          have := hs i j (Nat.zero_le _) hij (by omega)
          rw [ltSp, getElem!_pos d' j hj, getElem!_pos d' i hi] at this
          simpa using this
  · rintro e w' ⟨v, W, d, rfl, h1, h2, h3, h4⟩
    exact ⟨v, d, rfl, h1, h2, h3, h4⟩
end Go.Proofs.Ytnfnnmmblommiaa.PA
