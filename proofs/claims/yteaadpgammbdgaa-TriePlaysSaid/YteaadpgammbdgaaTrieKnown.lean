/- hornbooklaw16.known tells true; a trie that the call itself has made. -/
import Derived.Test.YteaadpgammbdgaaEnds
namespace Go.Proofs.Yteaadpgammbdgaa.PA
open Go.RowKit Go.Shelf Go.Proofs.YteaadpgammbdgaaW.PrintWords Go.Proofs.YteaadpgammbdgaaW.PrintLast Go.Proofs.YteaadpgammbdgaaW.PrintMore
set_option linter.unusedVariables false
set_option linter.unusedSimpArgs false

/-- A trie of the call's own: all that it is made of lies beyond B. -/
structure St (B : Nat) (w W : World) (tb N n : Nat) (g : Gh) : Prop where
  trie : TrieAt W tb N g n
  own : ∀ b, g.own b → B ≤ b
  tb_ : B ≤ tb
  below : Below B w W
  le : B ≤ W.heap.size
theorem St.step {B : Nat} {w W W' : World} {tb N n : Nat} {g : Gh} (S : St B w W tb N n g) (h : Below W.heap.size W W') : St B w W' tb N n g :=
  ⟨S.trie.below h, S.own, S.tb_, S.below.trans (h.mono S.le), Nat.le_trans S.le h.size⟩
theorem St.added {B : Nat} {w W W' : World} {tb N n : Nat} {g : Gh} {zs : List Int} {e : Ending} (S : St B w W tb N n g) (h : Added W tb N n g zs e W') :
    e = .returned (.bool true) ∧ ∃ g', St B w W' tb (N + zs.length) (n + 1) g' ∧ (∀ q, isWord g' q = (isWord g q || decide (q = zs.reverse))) ∧ Deeper g g' zs.length := by
  obtain ⟨he, g', T, hw, ht, hdp⟩ := h
  refine ⟨he, g', ⟨T, fun b hb => ?_, S.tb_, S.below.trans (ht.below S.own S.tb_ S.le), Nat.le_trans S.le ht.size⟩, hw, hdp⟩
  rcases ht.own b hb with q | q
  · exact S.own b q
  · exact Nat.le_trans S.le q
theorem gNew_word (w : World) (q : List Int) : isWord (gNew w) q = false := by
  unfold isWord gNew
  split
  · rename_i h
    split at h
    · simp only [Option.some.injEq, Prod.mk.injEq] at h; exact h.2.2.symm
    · cases h
  · rfl
theorem St.made (w W : World) (h : Below w.heap.size w W) :
    St w.heap.size w (((W.alloc (.map #[] 0)).alloc (.cells #[.map (some W.heap.size), .bool false] 70)).alloc (.cells #[.pointer (some ⟨W.heap.size + 1, 0, none⟩), .int .i64 0] 72)) (W.heap.size + 1 + 1) 0 0 (gNew W) := by
  have hs := h.size
  refine ⟨TrieAt.made W, fun b hb => ?_, by omega, ((h.alloc hs _).alloc (by simp; omega) _).alloc (by simp; omega) _, by simp; omega⟩
  obtain ⟨p, nb, mb, hh, hg, e⟩ := hb
  unfold gNew at hg
  split at hg
  · simp only [Option.some.injEq, Prod.mk.injEq] at hg
    rcases e with rfl | rfl <;> omega
  · cases hg
/-- A word that is written out. -/
theorem WordAt.lit (B : Nat) (W : World) (zs : List Int) (ok : ∀ z ∈ zs, (Lit.int .i32 z).wf = true) (hl : zs.length < 1000) : WordAt B (W.alloc (.cells (zs.map (Value.int .i32)).toArray 21)) (some ⟨W.heap.size, 0, none⟩) zs := by
  refine ⟨Kd.C_of_reads (d := (0 : Int)) (h1 := fun _ => rfl) ⟨rfl, by omega, fun _ => ⟨_, rfl, fun j hj => ?_⟩⟩, fun a ha _ => ?_, ok, by omega⟩
  · rw [add_none]
    refine cell_new (0 + j) ?_
    rw [Nat.zero_add, List.getElem?_toArray, List.getElem?_map, List.getElem?_eq_getElem hj]
    simp [List.getD_eq_getElem?_getD, hj]
  · cases ha
    exact ⟨_, heap_alloc_new W _, .inr rfl⟩
def litW (W : World) (zs : List Int) : World := W.alloc (.cells (zs.map (Value.int .i32)).toArray 21)
theorem litW_below (W : World) (zs : List Int) : Below W.heap.size W (litW W zs) := (Below.refl _ W).alloc (Nat.le_refl _) _
/-- What a call told, and the trie behind it. -/
def AddedSt (B : Nat) (w : World) (tb N n : Nat) (g : Gh) (zs : List Int) (e : Ending) (W' : World) : Prop :=
  e = .returned (.bool true) ∧ ∃ g', St B w W' tb (N + zs.length) (n + 1) g' ∧ (∀ q, isWord g' q = (isWord g q || decide (q = zs.reverse))) ∧ Deeper g g' zs.length
theorem St.add {B : Nat} {w W : World} {tb N n c : Nat} {g : Gh} {A : Option Addr} {zs : List Int} (S : St B w W tb N n g) (hW : WordAt B W A zs) (h0 : 0 < zs.length) (hi : isWord g zs.reverse = false) (hN : N + zs.length < maxLen) (hn : n < 4611686018427387904) :
    Calls Try.prog 16 #[.pointer (some ⟨tb, 0, none⟩), .slice A zs.length c] W (AddedSt B w tb N n g zs) :=
  (add_new S.trie hW S.le S.own h0 hi hN hn).mono fun e W' h => S.added h
theorem St.add_no {B : Nat} {w W : World} {tb N n c : Nat} {g : Gh} {A : Option Addr} {zs : List Int} (S : St B w W tb N n g) (hW : WordAt B W A zs) (h0 : 0 < zs.length) (hi : isWord g zs.reverse = true) :
    Calls Try.prog 16 #[.pointer (some ⟨tb, 0, none⟩), .slice A zs.length c] W fun e W' => e = .returned (.bool false) ∧ St B w W' tb N n g :=
  (add_there S.trie hW S.le h0 hi).mono fun e W' h => ⟨h.1, S.step h.2⟩
def EndsSt (B : Nat) (w W : World) (tb N n : Nat) (g : Gh) (l : List Int) (e : Ending) (W' : World) : Prop :=
  ∃ A c, e = .returned (.slice A l.length c) ∧ Kd.C (Kd.int .i64) W' A l.length l ∧ St B w W' tb N n g
theorem St.ends {B : Nat} {w W : World} {tb N n c tz : Nat} {g : Gh} {A : Option Addr} {zs : List Int} (S : St B w W tb N n g) (hW : WordAt B W A zs) (hto : tz ≤ zs.length) (hl : zs.length < 1099511627776) :
    Calls Try.prog 17 #[.pointer (some ⟨tb, 0, none⟩), .slice A zs.length c, .int .i64 (tz : Int)] W (EndsSt B w W tb N n g (endsUp g zs tz tz)) := by
  refine (ends_calls S.trie hW.row hW.ok hto hl).mono fun e W' ⟨v, he, hR, hb⟩ => ?_
  obtain ⟨A2, c2, rfl, _, hC⟩ := Kd.R_reads hR
  exact ⟨A2, c2, he, hC, S.step hb⟩
set_option maxRecDepth 100000 in
set_option maxHeartbeats 4000000 in
theorem trie_known (w : World) : Calls Try.prog 14 #[] w fun e w' => e = .returned (.bool true) ∧ Below w.heap.size w w' := by
  have ok1 : ∀ z ∈ ([77, 114] : List Int), (Lit.int .i32 z).wf = true := by decide
  have ok2 : ∀ z ∈ ([114] : List Int), (Lit.int .i32 z).wf = true := by decide
  have ok3 : ∀ z ∈ ([77, 114, 46] : List Int), (Lit.int .i32 z).wf = true := by decide
  have ok4 : ∀ z ∈ ([77] : List Int), (Lit.int .i32 z).wf = true := by decide
  have O1 := Lib.hid ok1
  have O2 := Lib.hid ok2
  have O3 := Lib.hid ok3
  have O4 := Lib.hid ok4
  have hS0 := St.made w w (Below.refl _ w)
  have hg0 := gNew_word w
  obtain ⟨W1, e1⟩ : ∃ W1, (((w.alloc (.map #[] 0)).alloc (.cells #[.map (some w.heap.size), .bool false] 70)).alloc (.cells #[.pointer (some ⟨w.heap.size + 1, 0, none⟩), .int .i64 0] 72)) = W1 := ⟨_, rfl⟩
  rw [e1] at hS0
  generalize gNew w = g0 at hS0 hg0
  have S0 := Lib.hid hS0
  have G0 := Lib.hid hg0
  have hnew := new_calls w
  rw [e1] at hnew
  have HNew := Lib.hid hnew
  clear ok1 ok2 ok3 ok4 hS0 hg0 hnew e1
  go_enter Try.func14, Try.ntmps14
  go_wp2_with (go_at_call 15; refine HNew.out.mono ?_; rintro e w' ⟨rfl, rfl⟩)
  have h1 := (S0.out.step (litW_below w' [77, 114])).add (c := 2) (WordAt.lit _ w' [77, 114] O1.out (by decide)) (by decide) (G0.out _) (by decide) (by decide)
  have H1 := Lib.hid h1
  clear h1
  refine H1.out.mono ?_
  rintro e w2 ⟨rfl, g1, hS1, hg1, _⟩
  have hi2 : isWord g1 [114] = false := by rw [hg1, G0.out]; decide
  have h2 := (hS1.step (litW_below w2 [114])).add (c := 1) (WordAt.lit _ w2 [114] O2.out (by decide)) (by decide) hi2 (by decide) (by decide)
  have H2 := Lib.hid h2
  have G1 := Lib.hid hg1
  clear h2 hS1 hg1 hi2 H1 S0
  go_wp2_with fail
  refine H2.out.mono ?_
  rintro e w3 ⟨rfl, g2, hS2, hg2, _⟩
  have hi3 : isWord g2 [114] = true := by rw [hg2]; simp
  have hi4 : isWord g2 [114, 77] = true := by rw [hg2, G1.out]; simp
  have h3 := (hS2.step (litW_below w3 [114])).add_no (c := 1) (WordAt.lit _ w3 [114] O2.out (by decide)) (by decide) hi3
  have H3 := Lib.hid h3
  have I3 := Lib.hid hi3
  have I4 := Lib.hid hi4
  clear h3 hS2 hg2 hi3 hi4 H2 G1 G0
  go_wp2_with fail
  refine H3.out.mono ?_
  rintro e w4 ⟨rfl, hS4⟩
  have S4 := Lib.hid hS4
  clear hS4 H3
  go_wp2_with fail
  refine add_empty.mono ?_
  rintro e w' ⟨rfl, rfl⟩
  go_wp2_with fail
  have h5 := (S4.out.step (litW_below w' [77, 114, 46])).ends (c := 3) (tz := 2) (WordAt.lit _ w' [77, 114, 46] O3.out (by decide)) (by decide) (by decide)
  have he : endsUp g2 [77, 114, 46] 2 2 = [1, 2] := by
    have a1 : ahead [77, 114, 46] 2 1 = [114] := rfl
    have a2 : ahead [77, 114, 46] 2 2 = [114, 77] := rfl
    simp only [endsUp, Nat.zero_add, Nat.reduceAdd, a1, a2, I3.out, I4.out, if_true]
    rfl
  rw [he] at h5
  have H5 := Lib.hid h5
  clear h5 he S4 I3 I4
  refine H5.out.mono ?_
  rintro e w5 ⟨A, c5, rfl, hC, hS5⟩
  obtain ⟨b, off, rfl, _⟩ := C_plain hC (by decide) (by decide)
  obtain ⟨ad, ha, hx0⟩ := Kd.at_int hC 0 (by decide) (by decide)
  cases ha
  obtain ⟨ad, ha, hx1⟩ := Kd.at_int hC 1 (by decide) (by decide)
  cases ha
  rw [add_none] at hx0 hx1
  rw [show rd ([1, 2] : List Int) 0 = 1 from rfl] at hx0
  rw [show rd ([1, 2] : List Int) 1 = 2 from rfl] at hx1
  simp only [Int.toNat_zero, Int.toNat_one, Nat.add_zero] at hx0 hx1
  have hl := len_calls hS5.trie
  rw [show ((0 + 1 + 1 : Nat) : Int) = 2 from rfl] at hl
  have HL := Lib.hid hl
  have S5 := Lib.hid hS5
  clear hl hS5 hC H5
  go_wp2_with fail
  refine HL.out.mono ?_
  rintro e w6 ⟨rfl, rfl⟩
  go_wp2_with fail
  refine (ends_none (tb := w.heap.size + 1 + 1) (c := 1) (A := some ⟨w6.heap.size, 0, none⟩) (m := 1) (tz := 2) (.inr (by decide))).mono ?_
  rintro e w7 ⟨rfl, rfl⟩
  go_wp2
  go_ret
  exact ⟨rfl, (S5.out.step (litW_below _ [77])).below⟩
theorem word_calm {w : World} {A : Option Addr} {zs : List Int} (h : Kd.C (Kd.int .i32) w A zs.length zs) : ∀ a, A = some a → 0 < zs.length → Calm w.heap.size w a.block := fun a ha hn => by
  obtain ⟨b, off, e, hb⟩ := C_plain h hn (by decide)
  rw [ha] at e; cases e
  exact ⟨_, Array.getElem?_eq_getElem hb, .inl hb⟩
end Go.Proofs.Yteaadpgammbdgaa.PA
