/- slices.SortFunc at a row of the call's own, its elements flat structs: what lies behind it. uniset.sorted: by hand: slices.SortFunc by the kit's shelf. -/
import Derived.Test.YtnfnnmmblommiaaMem
import Derived.Shelf.SlSortCmp.WholeK
import Derived.Test.YtnfnnmmblommiaaHSorted
import Derived.Test.YtnfnnmmblommiaaHShelf
import Derived.Shelf.SlSortCmp.NoneTotal
import Derived.Test.YtnfnnmmblommiaaPAx4
namespace Go.Proofs.Ytnfnnmmblommiaa.PA
open Go.RowKit Go.Proofs.YtnfnnmmblommiaaW.PrintWords Go.Proofs.YtnfnnmmblommiaaW.PrintLast Go.Proofs.YtnfnnmmblommiaaW.PrintMore
open Go.Shelf Go.Lib
open Go.Sort (flatK get_flatK size_flatK HoldsK)
set_option linter.unusedSectionVars false
set_option linter.unusedVariables false
set_option linter.unusedSimpArgs false

section
variable {α : Type} [Inhabited α] {kd : Kd α} {enc : α → List Value} {k : Nat}
/-- A row's cells, element by element. -/
theorem reps_cell {R : α → List Value → Prop} {ps : List α} {cs : List Value} (h : Reps R k ps cs) (hopen : ∀ p c, R p c → c = enc p) (hk : ∀ p, (enc p).length = k) (j i : Nat) (p : α) (hp : ps[j]? = some p) (hi : i < k) : cs[j * k + i]? = (enc p)[i]? := by
  have := hopen p _ (h.2 j p hp)
  rw [← this, List.getElem?_take, if_pos hi, List.getElem?_drop]
theorem flat_get (hk : ∀ p, (enc p).length = k) (d : Array α) (j i : Nat) (hj : j < d.size) (hi : i < k) : (flatK enc k d)[j * k + i]! = (enc d[j]!)[i]! := by
  have hlt : j * k + i < d.size * k := by
    have : (j + 1) * k ≤ d.size * k := Nat.mul_le_mul_right _ hj
    rw [Nat.add_mul] at this; omega
  rw [get_flatK _ _ _ _ hlt]
  have h1 : (j * k + i) / k = j := by rw [Nat.add_comm, Nat.add_mul_div_right _ _ (by omega), Nat.div_eq_of_lt hi]; omega
  have h2 : (j * k + i) % k = i := by rw [Nat.add_comm, Nat.add_mul_mod_self_right, Nat.mod_eq_of_lt hi]
  rw [h1, h2]
theorem R_holdsK {e base g c : Nat} {ok : Nat → Prop} {W : World} {n : Nat} {xs : List α} (h : kd.R e W base ok (.slice (some ⟨g, 0, none⟩) n c) xs) (hsz : kd.sz = k)
    (hopen : ∀ W base ok p cs, kd.M W base ok p cs → cs = enc p) (hk : ∀ p, (enc p).length = k) (hk0 : 0 < k) :
    HoldsK enc k W g 0 xs.toArray ∧ ∃ cur, W.heap[g]? = some (.cells cur e (0, 0)) ∧ n = xs.length ∧ n ≤ c ∧ c ≤ maxLen ∧ cur.size = c * k ∧ base ≤ g ∧ ok g := by
  obtain ⟨h0, inner, hown, hr⟩ := h
  rw [hsz] at hown hr
  have hl := hown.1
  rcases hown.2 with ⟨he, _⟩ | ⟨g', cap, cur, he, hb, hh, h1, h2, h3, h4⟩
  · cases he
  · injection he with e1 e2 e3
    injection e1 with e1
    injection e1 with e1 _ _
    subst e1; subst e2; subst e3
    refine ⟨?_, cur, hh, rfl, h1, h2, h3, hb, h0 _ rfl⟩
    intro t ht
    simp only [size_flatK, List.size_toArray] at ht
    have hlt : t / k < xs.length := Nat.div_lt_of_lt_mul (by rw [Nat.mul_comm]; exact ht)
    have hmod : t % k < k := Nat.mod_lt _ hk0
    have htk : t = t / k * k + t % k := by rw [Nat.mul_comm]; exact (Nat.div_add_mod t k).symm
    refine ⟨?_, ?_⟩
    · have hc := hown.cells (g := g) rfl t
      have hadd : (⟨g, 0, none⟩ : Addr).add t = ⟨g, t, none⟩ := add_plain g t
      rw [hadd] at hc
      simp only [Nat.zero_add, id]
      refine hc _ ?_
      have hp : xs[t / k]? = some xs[t / k] := List.getElem?_eq_getElem hlt
      have := reps_cell (enc := enc) hr (fun p c hp => hopen _ _ _ p c hp) hk (t / k) (t % k) _ hp hmod
      rw [← htk] at this
      rw [this, get_flatK _ _ _ _ (by simpa using ht)]
      have hge : (xs.toArray)[t / k]! = xs[t / k] := by simp [hlt]
      rw [hge]
      have hlen := hk xs[t / k]
      rw [List.getElem?_eq_getElem (by omega), getElem!_pos _ _ (by omega)]
    · simp only [World.frozen?, hh]
      simp
theorem sorted_R {e base g c n m : Nat} {ok : Nat → Prop} {W : World} {xs : List α} (d : Array α) (os : Array Obj) (h : kd.R e W base ok (.slice (some ⟨g, 0, none⟩) n c) xs) (hsz : kd.sz = k)
    (hopen : ∀ W base ok p cs, kd.M W base ok p cs → cs = enc p) (hmk : ∀ W base ok p, kd.M W base ok p (enc p)) (hk : ∀ p, (enc p).length = k) (hk0 : 0 < k) (hd : d.size = xs.length) :
    kd.R e (sortWorldK enc k W g 0 m d os) base ok (.slice (some ⟨g, 0, none⟩) n c) d.toList := by
  obtain ⟨_, cur, hh, hn, h1, h2, h3, hb, hok⟩ := R_holdsK h hsz hopen hk hk0
  subst hn
  have hg : g < W.heap.size := (Array.getElem?_eq_some_iff.1 hh).1
  have hheap : (sortWorldK enc k W g 0 m d os).heap[g]? = some (.cells (Go.Sort.putCells id 0 (flatK enc k d) cur) e (0, 0)) := by
    unfold sortWorldK
    rw [Go.Sort.heap_grow_old _ _ (by show g < (Go.Sort.mapBlock _ _ _).heap.size; simp [Go.Sort.mapBlock, Go.Sort.ahead]; exact hg)]
    show (W.heap.modify g (Go.Sort.onCells (Go.Sort.putCells id 0 (flatK enc k d))))[g]? = _
    rw [Array.getElem?_modify, if_pos rfl, hh]
    rfl
  have hcs : (Go.Sort.putCells id 0 (flatK enc k d) cur).size = cur.size := by simp [Go.Sort.putCells]
  have hget : ∀ t, t < d.size * k → (Go.Sort.putCells id 0 (flatK enc k d) cur)[t]? = some ((flatK enc k d)[t]!) := by
    intro t ht
    have htc : t < cur.size := by rw [h3]; exact Nat.lt_of_lt_of_le ht (Nat.mul_le_mul_right _ (by omega))
    simp only [Go.Sort.putCells, Array.getElem?_mapIdx, Array.getElem?_eq_getElem htc, Option.map_some, Nat.zero_le, true_and, Nat.zero_add, size_flatK, ht, if_true, Nat.sub_zero, id]
  refine ⟨fun q hq => by simp [Value.ownBlock] at hq; subst hq; exact hok, (Go.Sort.putCells id 0 (flatK enc k d) cur).toList.take (xs.length * k), ?_, ?_⟩
  · refine ⟨?_, .inr ⟨g, c, _, by simp [hd], hb, hheap, by simpa [hd] using h1, h2, by rw [hcs, hsz]; exact h3, by rw [hsz]; simp [hd]⟩⟩
    simp only [hsz, List.length_take, Array.length_toList, hcs, h3, hd, List.size_toArray]
    exact Nat.min_eq_left (Nat.mul_le_mul_right _ h1)
  · rw [hsz]
    refine ⟨?_, fun j p hp => ?_⟩
    · simp only [List.length_take, Array.length_toList, hcs, h3, hd, List.size_toArray]
      exact Nat.min_eq_left (Nat.mul_le_mul_right _ h1)
    · have hj : j < d.size := by
        rw [Array.getElem?_toList] at hp
        exact (Array.getElem?_eq_some_iff.1 hp).1
      have hpe : d[j]! = p := by
        rw [Array.getElem?_toList] at hp
        obtain ⟨_, h'⟩ := Array.getElem?_eq_some_iff.1 hp
        rw [getElem!_pos d j hj]; exact h'
      have : ((((Go.Sort.putCells id 0 (flatK enc k d) cur).toList.take (xs.length * k)).drop (j * k)).take k) = enc p := by
        have hmul : (j + 1) * k ≤ d.size * k := Nat.mul_le_mul_right _ hj
        rw [Nat.add_mul] at hmul
        apply List.ext_getElem?
        intro i
        rw [List.getElem?_take]
        split
        · rename_i hi
          have hlt : j * k + i < d.size * k := by omega
          rw [List.getElem?_drop, List.getElem?_take, if_pos (by rw [← hd]; exact hlt), Array.getElem?_toList, hget _ hlt, flat_get hk d j i hj hi, hpe]
          have hlen := hk p
          rw [List.getElem?_eq_getElem (by omega), getElem!_pos _ _ (by omega)]
        · rename_i hi
          have hlen := hk p
          rw [List.getElem?_eq_none (by omega)]
      rw [this]
      exact hmk _ _ _ p
theorem sorted_below {W : World} {g m B : Nat} (d : Array α) (os : Array Obj) (hB : B ≤ g) (hg : g < W.heap.size) : Below B W (sortWorldK enc k W g 0 m d os) := by
  refine ⟨rfl, rfl, rfl, ?_, fun q hq => ?_⟩
  · show W.heap.size ≤ ((W.heap.modify g _) ++ os).size
    simp
  · show ((W.heap.modify g _) ++ os)[q]? = _
    rw [Array.getElem?_append, if_pos (by rw [Array.size_modify]; omega), Array.getElem?_modify, if_neg (by omega)]
end
end Go.Proofs.Ytnfnnmmblommiaa.PA
namespace Go.Proofs.Ytnfnnmmblommiaa.PA
open Go.RowKit Go.Proofs.YtnfnnmmblommiaaW.PrintWords Go.Proofs.YtnfnnmmblommiaaW.PrintLast Go.Proofs.YtnfnnmmblommiaaW.PrintMore
open Go.Shelf Go.Lib
open Go.Sort (flatK get_flatK size_flatK HoldsK SWO PermIn SortedIn)
set_option linter.unusedVariables false
set_option linter.unusedSimpArgs false

instance : Inhabited Sp := ⟨z99⟩
def encSp (x : Sp) : List Value := [.int .i32 x.f0, .int .i32 x.f1]
def cfSp (x y : Sp) : Int := Lib.compareInt x.f0 y.f0
theorem ltSp (x y : Sp) : ltOf cfSp x y = decide (x.f0 < y.f0) := by
  unfold ltOf cfSp Lib.compareInt
  by_cases h1 : x.f0 < y.f0
  · simp [h1]
  · by_cases h2 : y.f0 < x.f0 <;> simp [h1, h2]
theorem swoSp : SWO (ltOf cfSp) where
  irrefl x := by rw [ltSp]; simp
  trans x y z h1 h2 := by rw [ltSp] at *; simp at *; omega
  ntrans x y z h1 h2 := by rw [ltSp] at *; simp at *; omega
theorem compare_cf (a b : Int) : cmp_Compare_int32.f a b = some (Lib.compareInt a b) := by
  unfold cmp_Compare_int32.f cmp_isNaN_int32.f Lib.compareInt
  by_cases h1 : a < b
  · simp [h1]
  · by_cases h2 : b < a
    · simp [h1, h2]
    · simp [h1, h2]
theorem drewN_grow (w : World) (os : Array Obj) : ∀ n, (Go.Sort.grow w os).drewN n = Go.Sort.grow (w.drewN n) os := fun n => rfl
set_option maxHeartbeats 1000000 in
theorem closure_cf (x y : Sp) (W : World) : Calls Try.prog 70 #[.agg #[.int .i32 x.f0, .int .i32 x.f1], .agg #[.int .i32 y.f0, .int .i32 y.f1]] W fun e w' => e = .returned (.int .i64 (cfSp x y)) ∧ ∃ q os', w' = Go.Sort.grow (W.drewN q) os' := by
  have hcon := fun W' => cmp_Compare_int32.calls x.f0 y.f0 _ W' (compare_cf x.f0 y.f0)
  have hu := Try.underlying99
  unfold cfSp
  generalize Lib.compareInt x.f0 y.f0 = r at hcon ⊢
  go_enter Try.func70, Try.ntmps70
  go_wp2_with (go_at_call 71; refine (hcon _).mono ?_; rintro e w' ⟨rfl, ⟨⟨nq, rfl⟩⟩⟩)
  go_ret
  exact ⟨rfl, nq, #[_, _], by rw [Go.Sort.alloc_eq_grow, Go.Sort.alloc_eq_grow, Go.Sort.grow_grow]; exact drewN_grow _ _ _⟩
theorem cmpLays (blk off size : Nat) (w : World) : CmpLays Try.prog 70 #[] encSp 2 cfSp blk off size w := fun _ _ _ _ x y => closure_cf x y _

theorem sorted_calls (A0 : Option Addr) (c0 : Nat) (l0 : List Rg) (w : World) (hr0 : Kd.C k41 w A0 l0.length l0) (hc0 : l0.length ≤ c0) (hn : l0.length < 1099511627776) :
    Calls Try.prog 62 #[.slice A0 l0.length c0] w fun e w' => ∃ v d, e = .returned v ∧ Kd.R k99 99 w' w.heap.size (fun _ => True) v d ∧ Below w.heap.size w w' ∧ d.Perm (spans l0) ∧ d.Pairwise (fun x y => x.f0 ≤ y.f0) := by
  refine (sorted_walk A0 c0 l0 w hr0 hc0 hn (fun _ _ d _ => d.Perm (spans l0) ∧ d.Pairwise (fun x y => x.f0 ≤ y.f0)) ?_).mono ?_
  · intro v W hR hB
    have hlen := spans_length l0
    obtain ⟨A, c, rfl, hlc, _⟩ := Kd.R_reads hR
    cases A with
    | none =>
      have h0 : (spans l0).length = 0 := by
        obtain ⟨_, inner, ho, _⟩ := hR
        rcases ho.2 with ⟨_, h⟩ | ⟨g, cap, cur, he, _⟩
        · exact h
        · cases he
      have hnil : spans l0 = [] := List.eq_nil_of_length_eq_zero h0
      have hc := AnyF.slices_SortFunc_none { Try.sortSpan with } none c (.func (.func 70) #[] #[]) W
      rw [h0]
      refine hc.mono ?_
      rintro e w' ⟨rfl, rfl⟩
      refine ⟨rfl, [], ?_, hB, by rw [hnil], List.Pairwise.nil⟩
      rw [hnil] at hR
      simpa using hR
    | some ad =>
      obtain ⟨_, inner, ho, _⟩ := id hR
      rcases ho.2 with ⟨he, _⟩ | ⟨g, cap, cur, he, hg, _⟩
      · cases he
      · injection he with e1 e2 e3
        injection e1 with e1
        subst e1
        obtain ⟨hH, cur', hh, _, _, _, _, hbase, _⟩ := R_holdsK (enc := encSp) (k := 2) hR rfl (fun _ _ _ p cs h => k99_openM h) (fun _ => rfl) (by omega)
        have hblk : g < W.heap.size := (Array.getElem?_eq_some_iff.1 hh).1
        have eg : ∀ args w, (callFunc 70 args).run Try.prog w = .ok (.enter 70 args) w := enters_of Try.func70 (by kernel_rfl) rfl
        have hcon := AnyQ.slices_SortFunc Try.sortSpan 2 Try.isAgg99 Try.sizeOf99 encSp (fun _ => rfl) (fun x v hv => by simp [encSp] at hv; rcases hv with rfl | rfl <;> rfl) cfSp swoSp 70 #[] g 0 c (spans l0).toArray W eg (cmpLays g 0 _ W) hH hblk (by simp; omega)
        rw [List.size_toArray] at hcon
        refine hcon.mono ?_
        rintro e w' ⟨rfl, d', n, os, hp, hs, rfl⟩
        have hd : d'.size = (spans l0).length := hp.1
        refine ⟨rfl, d'.toList, sorted_R d' os hR rfl (fun _ _ _ p cs h => k99_openM h) (fun _ _ _ p => k99_mkM _ _ _ p) (fun _ => rfl) (by omega) hd, hB.trans (sorted_below d' os hbase hblk), ?_, ?_⟩
        · have := hp.2.2
          rw [show d'.extract 0 (spans l0).length = d' by rw [← hd]; exact Array.extract_size, show (spans l0).toArray.extract 0 (spans l0).length = (spans l0).toArray from by rw [← List.size_toArray]; exact Array.extract_size] at this
          simpa using this
        · rw [List.pairwise_iff_getElem]
          intro i j hi hj hij
          simp only [Array.length_toList] at hi hj
          have := hs i j (Nat.zero_le _) hij (by omega)
          rw [ltSp, getElem!_pos d' j hj, getElem!_pos d' i hi] at this
          simpa using this
  · rintro e w' ⟨v, W, d, rfl, h1, h2, h3, h4⟩
    exact ⟨v, d, rfl, h1, h2, h3, h4⟩
end Go.Proofs.Ytnfnnmmblommiaa.PA
