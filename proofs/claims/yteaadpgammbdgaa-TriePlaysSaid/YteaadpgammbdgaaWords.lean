/- All words below a node of a tree: trie.tree.words. -/
import Derived.Test.YteaadpgammbdgaaWordRow
import Derived.Sort.CutIn
namespace Go.Proofs.Yteaadpgammbdgaa.PA
open Go.RowKit Go.Shelf Go.Proofs.YteaadpgammbdgaaW.PrintWords Go.Proofs.YteaadpgammbdgaaW.PrintLast Go.Proofs.YteaadpgammbdgaaW.PrintMore
open Go.Maps (int_keyed keyOf_int_mk IsMap)
attribute [local go_sem] Oper.semAt_some
set_option linter.unusedVariables false
set_option linter.unusedSimpArgs false

/-- What a row of words has become within a call that began at w with the row v0: its block is the old one, or a new one, behind the call's variables. -/
structure Told (w : World) (v0 : Value) (nb : Nat) (ev v : Value) (L : List (List Int)) (W : World) : Prop where
  t : W.heap[w.heap.size]? = some (.cells #[.pointer (some ⟨nb, 0, none⟩)] 67 (0, 0))
  e : W.heap[w.heap.size + 1]? = some (.cells #[ev] 22 (0, 0))
  o : W.heap[w.heap.size + 1 + 1]? = some (.cells #[v] 50 (0, 0))
  rows : RowsAt W v L
  grown : w.grownBy W v0.ownBlock
  own : v.ownBlock = v0.ownBlock ∨ ∃ b, v.ownBlock = some b ∧ w.heap.size + 1 + 1 + 1 ≤ b
theorem Told.turn {w : World} {v0 : Value} {nb : Nat} {ev v : Value} {L : List (List Int)} {W W' : World} {B : Nat} (h : Told w v0 nb ev v L W) (k : TurnFrom B W W') (hB : w.heap.size ≤ B) : Told w v0 nb ev v L W' :=
  ⟨k.same _ _ h.t (.inr rfl), k.same _ _ h.e (.inr rfl), k.same _ _ h.o (.inr rfl), h.rows.turn k,
    ⟨k.os.trans h.grown.os, k.tape.trans h.grown.tape, k.output.trans h.grown.output, Nat.le_trans h.grown.size k.size, fun j hj hne => by
      have h1 := h.grown.block j hj hne
      have hlt : j < W.heap.size := Nat.lt_of_lt_of_le hj h.grown.size
      rw [← h1, Array.getElem?_eq_getElem hlt]
      exact k.same j _ (Array.getElem?_eq_getElem hlt) (.inl (by omega))⟩, h.own⟩
theorem words_start (w : World) (nb : Nat) (ev v : Value) {L : List (List Int)} (hR : RowsAt w v L) :
    Told w v nb ev v L (((w.alloc (.cells #[.pointer (some ⟨nb, 0, none⟩)] 67)).alloc (.cells #[ev] 22)).alloc (.cells #[v] 50)) := by
  have hb : Below w.heap.size w (((w.alloc (.cells #[.pointer (some ⟨nb, 0, none⟩)] 67)).alloc (.cells #[ev] 22)).alloc (.cells #[v] 50)) := (((Below.refl _ w).alloc (Nat.le_refl _) _).alloc (by simp) _).alloc (by simp; omega) _
  refine ⟨?_, ?_, ?_, hR.below hb, ⟨hb.os, hb.tape, hb.output, hb.size, fun k hk _ => hb.block k hk⟩, .inl rfl⟩
  · exact (Below.heap_alloc _ _ _ (by simp; try omega)).trans ((Below.heap_alloc _ _ _ (by simp)).trans (heap_alloc_new w _))
  · refine (Below.heap_alloc _ _ _ (by simp)).trans ?_
    have := heap_alloc_new (w.alloc (.cells #[.pointer (some ⟨nb, 0, none⟩)] 67)) (.cells #[ev] 22); rwa [World.size_alloc] at this
  · have := heap_alloc_new ((w.alloc (.cells #[.pointer (some ⟨nb, 0, none⟩)] 67)).alloc (.cells #[ev] 22)) (.cells #[v] 50); rwa [World.size_alloc, World.size_alloc] at this
/-- New blocks alone. -/
theorem Told.below {w : World} {v0 : Value} {nb : Nat} {ev v : Value} {L : List (List Int)} {W W' : World} (h : Told w v0 nb ev v L W) (k : Below W.heap.size W W') : Told w v0 nb ev v L W' :=
  h.turn (B := W.heap.size) ⟨k.os, k.tape, k.output, k.size, fun j o hj _ => (k.block j (Array.getElem?_eq_some_iff.1 hj).1).trans hj⟩ h.grown.size
/-- The row turned, or a new one made, within what lies behind the call's variables; then noted. -/
theorem Told.noted {w : World} {v0 : Value} {nb : Nat} {ev v v1 : Value} {L L1 : List (List Int)} {W W1 : World} (h : Told w v0 nb ev v L W) (hv0 : ∀ b, v0.ownBlock = some b → b < w.heap.size) (hr : RowsAt W1 v1 L1) (hg : W.grownBy W1 v.ownBlock) (ho : v1.ownBlock = v.ownBlock ∨ ∃ b, v1.ownBlock = some b ∧ W.heap.size ≤ b) :
    Told w v0 nb ev v1 L1 (W1.setCell ⟨w.heap.size + 1 + 1, 0, none⟩ v1) ∧ KpW W (W1.setCell ⟨w.heap.size + 1 + 1, 0, none⟩ v1) := by
  have hsz : w.heap.size + 1 + 1 < W.heap.size := (Array.getElem?_eq_some_iff.1 h.o).1
  have hne : ∀ j, w.heap.size ≤ j → j < w.heap.size + 1 + 1 + 1 → some j ≠ v.ownBlock := fun j h1 h2 e => by
    rcases h.own with q | ⟨b, q1, q2⟩
    · have := hv0 j (by rw [← q]; exact e.symm); omega
    · rw [q1] at e; cases e; omega
  have k1 : ∀ j, w.heap.size ≤ j → j < w.heap.size + 1 + 1 + 1 → W1.heap[j]? = W.heap[j]? := fun j h1 h2 => hg.block j (by omega) (hne j h1 h2)
  have hoth : ∀ j, j ≠ w.heap.size + 1 + 1 → (W1.setCell ⟨w.heap.size + 1 + 1, 0, none⟩ v1).heap[j]? = W1.heap[j]? := fun j hj => Below.heap_setCell W1 ⟨w.heap.size + 1 + 1, 0, none⟩ v1 j hj
  have hob : W1.heap[w.heap.size + 1 + 1]? = some (.cells #[v] 50 (0, 0)) := (k1 _ (by omega) (by omega)).trans h.o
  have hs1 : (W1.setCell ⟨w.heap.size + 1 + 1, 0, none⟩ v1).heap.size = W1.heap.size := by simp
  refine ⟨⟨?_, ?_, ?_, ?_, ?_, ?_⟩, ⟨by rw [hs1]; exact hg.size, fun j o hj hw => ?_⟩⟩
  · exact (hoth _ (by omega)).trans ((k1 _ (by omega) (by omega)).trans h.t)
  · exact (hoth _ (by omega)).trans ((k1 _ (by omega) (by omega)).trans h.e)
  · exact box_set hob v1
  · refine hr.kept fun j cs t hc ht => (hoth j fun e => ?_).trans hc
    subst e
    rw [hob] at hc
    simp only [Option.some.injEq, Obj.cells.injEq] at hc
    obtain ⟨_, rfl, _⟩ := hc
    rcases ht with ht | ⟨ht, _⟩ <;> exact absurd ht (by decide)
  · refine ⟨hg.os.trans h.grown.os, hg.tape.trans h.grown.tape, hg.output.trans h.grown.output, by rw [hs1]; exact Nat.le_trans h.grown.size hg.size, fun j hj hne0 => ?_⟩
    refine (hoth j (by omega)).trans ((hg.block j (Nat.lt_of_lt_of_le hj h.grown.size) fun e => ?_).trans (h.grown.block j hj hne0))
    rcases h.own with q | ⟨b, q1, q2⟩
    · exact hne0 (e.trans q)
    · rw [q1] at e; cases e; omega
  · rcases ho with q | ⟨b, q1, q2⟩
    · rcases h.own with q' | q'
      · exact .inl (q.trans q')
      · exact .inr (by rw [q]; exact q')
    · exact .inr ⟨b, q1, by omega⟩
  · have hjlt := (Array.getElem?_eq_some_iff.1 hj).1
    refine (hoth j fun e => ?_).trans ((hg.block j hjlt fun e => ?_).trans hj)
    · subst e; rw [h.o] at hj; cases hj; cases hw
    · obtain ⟨vs, h1, _⟩ := h.rows
      obtain ⟨cs, hc⟩ := row_block h1 j e.symm
      rw [hj] at hc; cases hc; cases hw
theorem RowsAt.form {w : World} {v : Value} {L : List (List Int)} (h : RowsAt w v L) : ∃ a n c, v = .slice a n c := by
  obtain ⟨vs, q, _⟩ := h
  rcases q.2 with ⟨e, _⟩ | ⟨g', cap, cur, e, _⟩ <;> exact ⟨_, _, _, e⟩
theorem Told.obox {w : World} {v0 : Value} {nb : Nat} {ev v : Value} {L : List (List Int)} {W W1 : World} (h : Told w v0 nb ev v L W) (hv0 : ∀ b, v0.ownBlock = some b → b < w.heap.size) (hg : W.grownBy W1 v.ownBlock) : W1.heap[w.heap.size + 1 + 1]? = some (.cells #[v] 50 (0, 0)) := by
  have hsz : w.heap.size + 1 + 1 < W.heap.size := (Array.getElem?_eq_some_iff.1 h.o).1
  refine (hg.block _ hsz fun e => ?_).trans h.o
  rcases h.own with q | ⟨b, q1, q2⟩
  · have := hv0 _ (by rw [← q]; exact e.symm); omega
  · rw [q1] at e; cases e; omega
theorem below_but {w w' : World} (h : Below w.heap.size w w') (row : Option Nat) : w.grownBy w' row := ⟨h.os, h.tape, h.output, h.size, fun k hk _ => h.block k hk⟩
theorem orT {b : Bool} {k i : Nat} (h : (b || k == i) = true) (hk : (k == i) = false) : b = true := by rw [hk, Bool.or_false] at h; exact h
theorem orN {b c : Bool} (h : (b || c) = false) : b = false := by cases b <;> simp_all
theorem orS {b : Bool} {i : Nat} (h : (b || i == i) = false) : False := by simp at h
theorem words_none {g : Gh} {p : List Int} {h : Bool} {w : World} {N : Nat} (T : Tree w N g) (hh : isWord g p = h) {left : Int → Bool} (hl : ∀ x, left x = true ↔ (g (p ++ [x])).map (fun y : Nat × Nat × Bool => y.1) ≠ none) : Done g p h left (if h then [p.reverse] else []) := by
  have hno : ∀ x q, left x = false → isWord g (p ++ x :: q) = false := fun x q hx => by
    have h0 : g (p ++ [x]) = none := by
      cases hg : g (p ++ [x]) with
      | none => rfl
      | some y => have := (hl x).2 (by rw [hg]; simp); rw [hx] at this; cases this
    have h1 : ∀ q, g (p ++ x :: q) = none := fun q => by
      have : ∀ (n : Nat) (q : List Int), q.length = n → g (p ++ [x] ++ q) = none := fun n => by
        induction n with
        | zero => intro q hq; rw [List.eq_nil_of_length_eq_zero hq, List.append_nil]; exact h0
        | succ n ih =>
          intro q hq
          have hq0 : q ≠ [] := fun e => by subst e; simp at hq
          rw [← List.dropLast_concat_getLast hq0, ← List.append_assoc]
          exact T.closed _ _ (ih _ (by simp [hq]))
      have := this _ q rfl
      rwa [List.append_assoc, List.singleton_append] at this
    unfold isWord; rw [h1]
  refine ⟨by split <;> simp, fun u => ?_⟩
  constructor
  · intro hu
    split at hu
    · rename_i e; exact .inl ⟨e, by rw [List.mem_singleton.1 hu, List.reverse_reverse]⟩
    · cases hu
  · rintro (⟨h1, h2⟩ | ⟨x, q, h1, h2, h3⟩)
    · rw [if_pos h1, ← h2]; simp
    · rw [hno x q h1] at h3; cases h3

set_option maxRecDepth 100000 in
set_option maxHeartbeats 16000000 in
theorem words_calls {g : Gh} {D m : Nat} (hD : ∀ q, g q ≠ none → q.length ≤ D) (hD2 : D ≤ 1000) (hm : m < 1000000) (hcap : ∀ K : List (List Int), K.Nodup → (∀ u ∈ K, isWord g u.reverse = true) → K.length ≤ m) :
    ∀ (d : Nat) (w : World) (N : Nat) (T : Tree w N g) (p : List Int) (nb mb : Nat) (h : Bool) (hp : g p = some (nb, mb, h)) (hd : D ≤ p.length + d) (zs : List Int) (hz : zs = p.reverse) (ev : Value) (hE : WordRow w ev zs) (v : Value) (L : List (List Int)) (hR : RowsAt w v L) (hA : Ahead g p L),
    Calls Try.prog 55 #[.pointer (some ⟨nb, 0, none⟩), ev, v] w fun e w' => ∃ v' M, e = .returned v' ∧ Under g p M ∧ RowsAt w' v' (L ++ M) ∧ w.grownBy w' v.ownBlock ∧ (v'.ownBlock = v.ownBlock ∨ ∃ b, v'.ownBlock = some b ∧ w.heap.size ≤ b) := by
  intro d
  induction d using Nat.strongRecOn with
  | _ d ih =>
  intro w N T p nb mb h hp hd zs hz ev hE v L hR hA
  have hh : isWord g p = h := by unfold isWord; rw [hp]
  have hpl : p.length ≤ D := hD p (by rw [hp]; simp)
  have h0 := T.cell0 hp
  have h1 := T.cell1 hp
  have hM := T.map _ _ _ _ hp
  have hml : mb < w.heap.size := hM.lt
  have hnb : some nb ≠ v.ownBlock := fun e => by
    obtain ⟨vs, q, _⟩ := hR
    obtain ⟨cs, hc⟩ := row_block q nb e.symm
    rw [T.node _ _ _ _ hp] at hc
    simp at hc
  have hown : ∀ b, g.own b → some b ≠ v.ownBlock := fun b hb e => by
    obtain ⟨vs, q, _⟩ := hR
    obtain ⟨cs, hc⟩ := row_block q b e.symm
    obtain ⟨r, nb', mb', hh', hg, rfl | rfl⟩ := hb
    · rw [T.node _ _ _ _ hg] at hc; simp at hc
    · obtain ⟨es, clock, ho⟩ := (T.map _ _ _ _ hg).obj
      rw [ho] at hc; cases hc
  have hv0 : ∀ b, v.ownBlock = some b → b < w.heap.size := fun b hb => by
    obtain ⟨vs, q, _⟩ := hR
    obtain ⟨cs, hc⟩ := row_block q b hb
    exact (Array.getElem?_eq_some_iff.1 hc).1
  have HT := Lib.hid T
  have HZ := Lib.hid hz
  have HP := Lib.hid hp
  have HE := Lib.hid hE
  have HD := Lib.hid hD
  have HI := Lib.hid ih
  have HA := Lib.hid hA
  have HM := Lib.hid hM
  have HH := Lib.hid hh
  have HC := Lib.hid hcap
  have HO := Lib.hid hown
  have HV0 := Lib.hid hv0
  have HRV := Lib.hid hR
  have HZL : Hid (zs.length ≤ 1000000) := Lib.hid (by rw [hz, List.length_reverse]; omega)
  have HLL : Hid (L.length < 1000000) := Lib.hid (Nat.lt_of_le_of_lt (hcap L hA.nodup hA.word) hm)
  have HN := Lib.hid hnb
  obtain ⟨A, c, rfl, _⟩ := hE.reads
  have hvf : ∃ Av lv cv, v = .slice Av lv cv := by
    obtain ⟨vs, q, _⟩ := hR
    rcases q.2 with ⟨e, _⟩ | ⟨g', cap, cur, e, _⟩ <;> exact ⟨_, _, _, e⟩
  obtain ⟨Av, lv, cv, rfl⟩ := hvf
  refine callsIn_wide (n := 7) |>.1 ?_
  have hkc := fun W' => callsIn_wide (n := 7 - 1) |>.2 (keys_calls mb W')
  have hV := words_start w nb (.slice A zs.length c) (.slice Av lv cv) hR
  have h03 := hV.grown.cell h0 hnb
  have h13 := hV.grown.cell h1 hnb
  clear hz T hp hD ih hA hM hh hcap hR hE hown hv0
  refine callsIn_of_wp_marks Try.func55 rfl trivial ?_ rfl
  simp only [Try.ntmps55, List.size_toArray, List.length_cons, List.length_nil, Nat.reduceAdd, Nat.reduceSub, Array.replicate_succ, Array.replicate_zero, List.push_toArray, List.append_toArray, List.nil_append, List.cons_append]
  have HV := Lib.hid hV
  clear hV
  gi_upto_if 11 with fail
  gi_cut [] from 17 (fun wc => Hid (∃ v1, Told w (.slice Av lv cv) nb (.slice A zs.length c) v1 (L ++ (if h then [zs] else [])) wc))
  case first =>
    generalize (((w.alloc (.cells #[.pointer (some ⟨nb, 0, none⟩)] 67)).alloc (.cells #[.slice A zs.length c] 22)).alloc (.cells #[.slice Av lv cv] 50)) = w3 at HV h03 h13 ⊢
    cases h with
    | false =>
      gi_wp2
      gi_meet
      exact Lib.hid ⟨_, by simpa using HV.out⟩
    | true =>
      have hmx : Try.prog.follows .mixedOrders = true := by kernel_rfl
      gi_upto_region 2 with fail
      refine wpIn_region_inv hmx (by kernel_rfl) (fun s a' W => ∃ x12 x13 x14 x15 x16, a' = { tmps := #[.pointer (some ⟨nb, 0, none⟩), .slice A zs.length c, .slice Av lv cv, .pointer (some ⟨w.heap.size, 0, none⟩), .pointer (some ⟨w.heap.size + 1, 0, none⟩), .pointer (some ⟨w.heap.size + 1 + 1, 0, none⟩), .slice none 0 0, undef, .pointer (some ⟨nb, 0, none⟩), .pointer (some ⟨nb, 0, none⟩), .pointer (some ⟨nb, 1, none⟩), .bool true, x12, x13, x14, x15, x16, undef, undef, undef, undef, undef, undef, undef, undef, undef, undef, undef, undef, undef, undef, undef, undef, undef, undef, undef], defers := [] } ∧
          (s 4 = false → Below w3.heap.size w3 W) ∧ (s 0 = true → x12 = .slice Av lv cv) ∧ (s 1 = true → x13 = .slice A zs.length c) ∧ (s 2 = true → s 4 = false → WordRow W x14 zs) ∧ (s 3 = true → s 4 = false → ∃ b, x15 = .slice (some ⟨b, 0, none⟩) 1 1 ∧ W.heap[b]? = some (.cells #[x14] 22 (0, 0))) ∧
          (s 4 = true → s 5 = false → RowsAt W x16 (L ++ [zs]) ∧ w3.grownBy W (Value.slice Av lv cv).ownBlock ∧ (x16.ownBlock = (Value.slice Av lv cv).ownBlock ∨ ∃ b, x16.ownBlock = some b ∧ w3.heap.size ≤ b)) ∧
          (s 5 = true → ∃ v1, Told w (.slice Av lv cv) nb (.slice A zs.length c) v1 (L ++ [zs]) W)) ?_ ?_ ?_
      · intro s i o a' W ho hs hdep hcl hJ
        obtain ⟨x12, x13, x14, x15, x16, rfl, f0, f1, f2, f3, f4, f5, f6⟩ := hJ
        have hi : i < 6 := by simpa using (Array.getElem?_eq_some_iff.1 ho).1
        have hcl4 : ∀ k, k < 4 → s k = false → s 4 = false := fun k hk hks => by
          cases h4 : s 4 with
          | false => rfl
          | true =>
            have q0 := hcl 4 _ rfl h4 { on := 0, ground := .data } (by simp) rfl
            have q3 := hcl 4 _ rfl h4 { on := 3, ground := .data } (by simp) rfl
            have q2 := hcl 4 _ rfl h4 { on := 2, ground := .chain } (by simp) rfl
            have q1 := hcl 2 _ rfl q2 { on := 1, ground := .data } (by simp) rfl
            obtain rfl | rfl | rfl | rfl : k = 0 ∨ k = 1 ∨ k = 2 ∨ k = 3 := by omega
            all_goals simp_all
        obtain rfl | rfl | rfl | rfl | rfl | rfl : i = 0 ∨ i = 1 ∨ i = 2 ∨ i = 3 ∨ i = 4 ∨ i = 5 := by omega
        · cases ho
          have hb := f0 (hcl4 0 (by omega) hs)
          have hc := box_cell (HV.out.below hb).o
          refine wpOpIn_of rfl rfl fun K hK => ?_
          clear hdep hcl hcl4
          go_simp
          exact hK _ _ ⟨_, _, _, _, _, rfl, by simpa using f0, fun _ => rfl, by simpa using f2, by simpa using f3, by simpa using f4, by simpa using f5, by simpa using f6⟩
        · cases ho
          have hb := f0 (hcl4 1 (by omega) hs)
          have hc := box_cell (HV.out.below hb).e
          refine wpOpIn_of rfl rfl fun K hK => ?_
          clear hdep hcl hcl4
          go_simp
          exact hK _ _ ⟨_, _, _, _, _, rfl, by simpa using f0, by simpa using f1, fun _ => rfl, by simpa using f3, by simpa using f4, by simpa using f5, by simpa using f6⟩
        · cases ho
          have h4 := hcl4 2 (by omega) hs
          have hb := f0 h4
          obtain rfl := f2 (hdep { on := 1, ground := .data } (by simp) rfl)
          have h3 : s 3 = false := by
            cases h : s 3 with
            | false => rfl
            | true => exact absurd (hcl 3 _ rfl h { on := 2, ground := .data } (by simp) rfl) (by simp [hs])
          have h5 : s 5 = false := by
            cases h : s 5 with
            | false => rfl
            | true => exact absurd (hcl 5 _ rfl h { on := 4, ground := .data } (by simp) rfl) (by simp [h4])
          have hC := callsIn_wide (n := 7 - 1) |>.2 (clone_calls (row_kept HE.out fun k cs _ hc => ((HV.out.below hb).grown.block k (Array.getElem?_eq_some_iff.1 hc).1 (fun e => by
            obtain ⟨cs', hc'⟩ := row_block HRV.out.choose_spec.1 k e.symm
            rw [hc'] at hc; simp at hc)).trans hc) HZL.out)
          refine wpOpIn_of rfl rfl fun K hK => ?_
          clear hdep hcl hcl4
          go_simp
          refine ⟨trivial, hC.mono ?_⟩
          rintro e w' ⟨⟨u', rfl, hu⟩, hbu⟩
          exact hK _ _ ⟨_, _, _, _, _, rfl, fun _ => hb.trans (hbu.mono hb.size), by simpa using f1, fun _ => rfl, fun _ _ => hu, by simp [h3], by simp [h4], by simp [h5]⟩
        · cases ho
          have h4 := hcl4 3 (by omega) hs
          have hb := f0 h4
          have hu := f3 (hdep { on := 2, ground := .data } (by simp) rfl) h4
          have h5 : s 5 = false := by
            cases h : s 5 with
            | false => rfl
            | true => exact absurd (hcl 5 _ rfl h { on := 4, ground := .data } (by simp) rfl) (by simp [h4])
          obtain ⟨A', c', rfl, _⟩ := hu.reads
          refine wpOpIn_of rfl rfl fun K hK => ?_
          clear hdep hcl hcl4
          go_simp
          refine hK _ _ ⟨_, _, _, _, _, rfl, fun _ => hb.alloc hb.size _, by simpa using f1, by simpa using f2, fun _ _ => row_kept hu fun k cs _ hc => (Below.heap_alloc _ _ k (Array.getElem?_eq_some_iff.1 hc).1).trans hc, fun _ _ => ⟨_, rfl, heap_alloc_new _ _⟩, by simp [h4], by simp [h5]⟩
        · cases ho
          have hb := f0 hs
          obtain rfl := f1 (hdep { on := 0, ground := .data } (by simp) rfl)
          have h3 := hdep { on := 3, ground := .data } (by simp) rfl
          have h2 := hdep { on := 2, ground := .chain } (by simp) rfl
          have hu := f3 h2 hs
          obtain ⟨b, rfl, hbx⟩ := f4 h3 hs
          have h5 : s 5 = false := by
            cases h : s 5 with
            | false => rfl
            | true => exact absurd (hcl 5 _ rfl h { on := 4, ground := .data } (by simp) rfl) (by simp [hs])
          obtain ⟨v1, w1, hr, q1, q2, q3⟩ := append_words (W0 := w) (HV.out.below hb).rows hu hbx HLL.out
          refine wpOpIn_of rfl rfl fun K hK => ?_
          refine wpIn_append_eq (.tmp 12) (.tmp 15) 50 rfl hr ?_
          refine hK _ _ ⟨_, _, _, _, _, rfl, by simp, fun _ => rfl, by simpa using f2, by simp, by simp, fun _ _ => ⟨q1, (below_but hb _).trans q2, q3.imp id fun e => ⟨_, e, hb.size⟩⟩, by simp [h5]⟩
        · cases ho
          have h4 := hdep { on := 4, ground := .data } (by simp) rfl
          obtain ⟨q1, q2, q3⟩ := f5 h4 hs
          have hn := HV.out.noted HV0.out q1 q2 q3
          have hbo := HV.out.obox HV0.out q2
          have hc := box_cell hbo
          have hf := box_frozen hbo
          obtain ⟨a1, n1, c1, rfl⟩ := q1.form
          refine wpOpIn_of rfl rfl fun K hK => ?_
          clear hdep hcl hcl4
          go_simp
          refine hK _ _ ⟨_, _, _, _, _, rfl, by simp [h4], by simpa using f1, by simpa using f2, by simp [h4], by simp [h4], by simp, fun _ => ⟨_, hn.1⟩⟩
      · intro s a' W hs hJ
        obtain ⟨x12, x13, x14, x15, x16, rfl, f0, f1, f2, f3, f4, f5, f6⟩ := hJ
        have hfin := Lib.hid (f6 (hs 5 (by simp)))
        clear f0 f1 f2 f3 f4 f5 f6 hs
        show _
        gi_wp2
        gi_meet
        exact hfin
      · exact ⟨_, _, _, _, _, rfl, fun _ => below_dr (Below.refl _ _), (fun e => by cases e), (fun e => by cases e), (fun e => by cases e), (fun e => by cases e), (fun e => by cases e), (fun e => by cases e)⟩
  case rest =>
    obtain ⟨v1, HT1⟩ := hcut.out
    clear hcut h03 h13 HV
    have h0c := HT1.grown.cell h0 hnb
    have hct := box_cell HT1.t
    have HT4 := Lib.hid (HT1.below ((Below.refl _ wc).alloc (Nat.le_refl _) (.cells #[.map (some mb)] 68)))
    have HBX := Lib.hid (heap_alloc_new wc (.cells #[.map (some mb)] 68))
    have hS4 : wc.heap.size < (wc.alloc (.cells #[.map (some mb)] 68)).heap.size := by simp
    have HS := Lib.hid hS4
    have htr : ∀ (W : World), w.grownBy W (Value.slice Av lv cv).ownBlock → Tree W N g := fun W hg => HT.out.kept fun b hb => hg.block b (HT.out.own_lt hb) (HO.out b hb)
    have HTR := Lib.hid htr
    have hmo : ∀ (W : World), w.grownBy W (Value.slice Av lv cv).ownBlock → W.heap[mb]? = w.heap[mb]? := fun W hg => hg.block mb hml (HO.out mb ⟨_, _, _, _, HP.out, .inr rfl⟩)
    have HMO := Lib.hid hmo
    clear HT1 htr hmo hS4
    gi_wp2_with (refine ⟨trivial, ?_⟩; gi_at_call 68; refine (hkc _).mono ?_; rintro e w2 ⟨rfl, rfl⟩)
    generalize wc.alloc (.cells #[.map (some mb)] 68) = w4 at HT4 HBX HS ⊢
    generalize wc.heap.size = Bx at HBX HS ⊢
    have hal : ∀ r, TurnFrom w.heap.size w4 ((w4.alloc (.deferred (some []))).alloc (.loop r)) := fun r => (TurnFrom.alloc _ _ _).trans (TurnFrom.alloc _ _ _)
    refine range_turnS rfl (enters_of Try.func76 (by kernel_rfl) rfl) (fun _ => rfl)
      (fun r => keys1_iterS Bx mb N (fun x => Option.map (fun y : Nat × Nat × Bool => y.1) (g (p ++ [x]))) _ ((hal r).same _ _ HBX.out (.inr rfl)) (HM.out.same (HMO.out _ ((HT4.out.turn (hal r) (Nat.le_refl _)).grown))))
      (fun left W => ∃ v' M, Done g p h left M ∧ Told w (.slice Av lv cv) nb (.slice A zs.length c) v' (L ++ M) W)
      (fun left X Y ⟨v', M, q1, q2⟩ ht => ⟨v', M, q1, q2.turn ht HT4.out.grown.size⟩)
      (fun r left X ⟨v', M, q1, q2⟩ => (HMO.out _ q2.grown).trans (HMO.out _ ((HT4.out.turn (hal r) (Nat.le_refl _)).grown)).symm)
      (fun left hl => ⟨v1, _, words_none HT.out HH.out hl, by rw [← HZ.out]; exact HT4.out⟩)
      (fun x => { tmps := #[.pointer (some ⟨nb, 0, none⟩), .slice A zs.length c, .slice Av lv cv, .pointer (some ⟨w.heap.size, 0, none⟩), .pointer (some ⟨w.heap.size + 1, 0, none⟩), .pointer (some ⟨w.heap.size + 1 + 1, 0, none⟩), .slice none 0 0, .int .i32 x, .pointer (some ⟨nb, 0, none⟩), .pointer (some ⟨nb, 0, none⟩), .pointer (some ⟨nb, 1, none⟩), .bool h, u12, u13, u14, u15, u16, .pointer (some ⟨nb, 0, none⟩), .pointer (some ⟨nb, 0, none⟩), .pointer (some ⟨nb, 0, none⟩), .map (some mb), .func (.func 76) #[] #[.pointer (some ⟨Bx, 0, none⟩)], .int .i32 x, u23, u24, u25, u26, u27, u28, u29, u30, u31, u32, u33, u34, u35], defers := [] })
      ?assign ?body ?done
    case assign =>
      intro l x W K hK
      gi_wp2
      exact hK
    case body =>
      rintro l left x W ⟨hwx, hgx, hlx⟩ ⟨v', M, hdn, hT⟩
      obtain ⟨b2, mb2, h2, hg2⟩ : ∃ b2 mb2 h2, g (p ++ [x]) = some (b2, mb2, h2) := by
        cases hh : g (p ++ [x]) with
        | none => rw [hh] at hgx; exact absurd rfl hgx
        | some y => exact ⟨y.1, y.2.1, y.2.2, rfl⟩
      have hmx : Try.prog.follows .mixedOrders = true := by kernel_rfl
      have hxl := HD.out (p ++ [x]) (by rw [hg2]; simp)
      rw [List.length_append] at hxl
      obtain ⟨a1, n1, c1, rfl⟩ := hT.rows.form
      have hzl : zs.length ≤ 1000 := by rw [HZ.out, List.length_reverse]; omega
      have hzz : x :: zs = (p ++ [x]).reverse := by rw [HZ.out, List.reverse_append]; rfl
      simp only [List.length_cons, List.length_nil] at hxl
      have hdd : D ≤ (p ++ [x]).length + (d - 1) := by rw [List.length_append]; simp; omega
      have HML : Hid (∀ (W : World), w.grownBy W (Value.slice Av lv cv).ownBlock → (Instr.lookup 68 (.map (some mb)) (.int .i32 x) false).run Try.prog W = .ok (.pointer (some ⟨b2, 0, none⟩)) W) := Lib.hid fun W' hg' => by
        have := (HM.out.same (HMO.out _ hg')).lookup x hwx
        simp only [hg2, Option.map_some, ptr] at this
        exact this
      have hEV : ∀ (W : World), w.grownBy W (Value.slice Av lv cv).ownBlock → WordRow W (.slice A zs.length c) zs := fun W' hg' => row_kept HE.out fun k cs _ hc => (hg'.block k (Array.getElem?_eq_some_iff.1 hc).1 (fun e => by
            obtain ⟨cs', hc'⟩ := row_block HRV.out.choose_spec.1 k e.symm
            rw [hc'] at hc; simp at hc)).trans hc
      gi_upto_region 5 with fail
      refine wpIn_region_inv hmx (by kernel_rfl) (fun s a' W1 => ∃ x23 x24 x25 x26 x27 x28 x29 x30 x31 x32 x33 x34, a' = { tmps := #[.pointer (some ⟨nb, 0, none⟩), .slice A zs.length c, .slice Av lv cv, .pointer (some ⟨w.heap.size, 0, none⟩), .pointer (some ⟨w.heap.size + 1, 0, none⟩), .pointer (some ⟨w.heap.size + 1 + 1, 0, none⟩), .slice none 0 0, .int .i32 x, .pointer (some ⟨nb, 0, none⟩), .pointer (some ⟨nb, 0, none⟩), .pointer (some ⟨nb, 1, none⟩), .bool h, u12, u13, u14, u15, u16, .pointer (some ⟨nb, 0, none⟩), .pointer (some ⟨nb, 0, none⟩), .pointer (some ⟨nb, 0, none⟩), .map (some mb), .func (.func 76) #[] #[.pointer (some ⟨Bx, 0, none⟩)], .int .i32 x, x23, x24, x25, x26, x27, x28, x29, x30, x31, x32, x33, x34, u35], defers := [] } ∧
          (s 11 = false → Below W.heap.size W W1) ∧ (s 0 = true → x23 = .pointer (some ⟨nb, 0, none⟩)) ∧ (s 1 = true → x24 = .pointer (some ⟨nb, 0, none⟩)) ∧ (s 2 = true → x25 = .pointer (some ⟨nb, 0, none⟩)) ∧ (s 3 = true → x26 = .map (some mb)) ∧ (s 4 = true → x27 = .int .i32 x) ∧ (s 5 = true → x28 = .pointer (some ⟨b2, 0, none⟩)) ∧ (s 6 = true → x29 = .int .i32 x) ∧
          (s 7 = true → s 9 = false → ∃ gb, x30 = .slice (some ⟨gb, 0, none⟩) 1 1 ∧ W.heap.size ≤ gb ∧ W1.heap[gb]? = some (.cells #[.int .i32 x] 21 (0, 0))) ∧ (s 8 = true → x31 = .slice A zs.length c) ∧ (s 9 = true → s 11 = false → WordRow W1 x32 (x :: zs)) ∧ (s 10 = true → x33 = .slice a1 n1 c1) ∧
          (s 11 = true → s 12 = false → ∃ M2, Under g (p ++ [x]) M2 ∧ RowsAt W1 x34 (L ++ M ++ M2) ∧ W.grownBy W1 (Value.slice a1 n1 c1).ownBlock ∧ (x34.ownBlock = (Value.slice a1 n1 c1).ownBlock ∨ ∃ b, x34.ownBlock = some b ∧ W.heap.size ≤ b)) ∧
          (s 12 = true → KpW W W1 ∧ ∃ v2 M2, Done g p h (fun z => left z && !decide (z = x)) M2 ∧ Told w (.slice Av lv cv) nb (.slice A zs.length c) v2 (L ++ M2) W1)) ?_ ?_ ?_
      · intro s i o a' W1 ho hs hdep hcl hJ
        obtain ⟨x23, x24, x25, x26, x27, x28, x29, x30, x31, x32, x33, x34, rfl, fb, f0, f1, f2, f3, f4, f5, f6, f7, f8, f9, f10, f11, f12⟩ := hJ
        have hi : i < 13 := by simpa using (Array.getElem?_eq_some_iff.1 ho).1
        have hn11 : ∀ k, k < 11 → s k = false → s 11 = false := fun k hk hks => by
          cases h11 : s 11 with
          | false => rfl
          | true =>
            have q5 := hcl 11 _ rfl h11 { on := 5, ground := .data } (by simp) rfl
            have q9 := hcl 11 _ rfl h11 { on := 9, ground := .data } (by simp) rfl
            have q10 := hcl 11 _ rfl h11 { on := 10, ground := .data } (by simp) rfl
            have q3 := hcl 5 _ rfl q5 { on := 3, ground := .data } (by simp) rfl
            have q4 := hcl 5 _ rfl q5 { on := 4, ground := .data } (by simp) rfl
            have q2 := hcl 3 _ rfl q3 { on := 2, ground := .data } (by simp) rfl
            have q1 := hcl 2 _ rfl q2 { on := 1, ground := .data } (by simp) rfl
            have q0 := hcl 1 _ rfl q1 { on := 0, ground := .data } (by simp) rfl
            have q7 := hcl 9 _ rfl q9 { on := 7, ground := .data } (by simp) rfl
            have q8 := hcl 9 _ rfl q9 { on := 8, ground := .data } (by simp) rfl
            have q6 := hcl 7 _ rfl q7 { on := 6, ground := .data } (by simp) rfl
            clear hcl hdep ho f0 f1 f2 f3 f4 f5 f6 f7 f8 f9 f10 f11 f12 fb
            obtain rfl | rfl | rfl | rfl | rfl | rfl | rfl | rfl | rfl | rfl | rfl : k = 0 ∨ k = 1 ∨ k = 2 ∨ k = 3 ∨ k = 4 ∨ k = 5 ∨ k = 6 ∨ k = 7 ∨ k = 8 ∨ k = 9 ∨ k = 10 := by omega
            all_goals first | exact absurd (hks.symm.trans q0) (by decide) | exact absurd (hks.symm.trans q1) (by decide) | exact absurd (hks.symm.trans q2) (by decide) | exact absurd (hks.symm.trans q3) (by decide) | exact absurd (hks.symm.trans q4) (by decide) | exact absurd (hks.symm.trans q5) (by decide) | exact absurd (hks.symm.trans q6) (by decide) | exact absurd (hks.symm.trans q7) (by decide) | exact absurd (hks.symm.trans q8) (by decide) | exact absurd (hks.symm.trans q9) (by decide) | exact absurd (hks.symm.trans q10) (by decide)
        obtain rfl | rfl | rfl | rfl | rfl | rfl | rfl | rfl | rfl | rfl | rfl | rfl | rfl : i = 0 ∨ i = 1 ∨ i = 2 ∨ i = 3 ∨ i = 4 ∨ i = 5 ∨ i = 6 ∨ i = 7 ∨ i = 8 ∨ i = 9 ∨ i = 10 ∨ i = 11 ∨ i = 12 := by omega
        · cases ho
          have hb := fb (hn11 0 (by omega) hs)
          have hc := box_cell (hT.below hb).t
          refine wpOpIn_of rfl rfl fun K hK => ?_
          clear hdep hcl hn11
          have G := Lib.hid (And.intro fb (And.intro f0 (And.intro f1 (And.intro f2 (And.intro f3 (And.intro f4 (And.intro f5 (And.intro f6 (And.intro f7 (And.intro f8 (And.intro f9 (And.intro f10 (And.intro f11 f12)))))))))))))
          have HK := Lib.hid hK
          clear fb f0 f1 f2 f3 f4 f5 f6 f7 f8 f9 f10 f11 f12 hK hEV hs hT hdn hdd hzz
          go_simp
          obtain ⟨fb, f0, f1, f2, f3, f4, f5, f6, f7, f8, f9, f10, f11, f12⟩ := G.out
          have hK := HK.out
          exact hK _ _ ⟨_, _, _, _, _, _, _, _, _, _, _, _, rfl, fun e => fb (orN e), fun _ => rfl, fun e => f1 (orT e rfl), fun e => f2 (orT e rfl), fun e => f3 (orT e rfl), fun e => f4 (orT e rfl), fun e => f5 (orT e rfl), fun e => f6 (orT e rfl), fun e1 e2 => f7 (orT e1 rfl) (orN e2), fun e => f8 (orT e rfl), fun e1 e2 => f9 (orT e1 rfl) (orN e2), fun e => f10 (orT e rfl), fun e1 e2 => f11 (orT e1 rfl) (orN e2), fun e => f12 (orT e rfl)⟩
        · cases ho
          obtain rfl := f0 (hdep { on := 0, ground := .data } (by simp) rfl)
          refine wpOpIn_of rfl rfl fun K hK => ?_
          clear hdep hcl hn11
          have G := Lib.hid (And.intro fb (And.intro f0 (And.intro f1 (And.intro f2 (And.intro f3 (And.intro f4 (And.intro f5 (And.intro f6 (And.intro f7 (And.intro f8 (And.intro f9 (And.intro f10 (And.intro f11 f12)))))))))))))
          have HK := Lib.hid hK
          clear fb f0 f1 f2 f3 f4 f5 f6 f7 f8 f9 f10 f11 f12 hK hEV hs hT hdn hdd hzz
          go_simp
          obtain ⟨fb, f0, f1, f2, f3, f4, f5, f6, f7, f8, f9, f10, f11, f12⟩ := G.out
          have hK := HK.out
          exact hK _ _ ⟨_, _, _, _, _, _, _, _, _, _, _, _, rfl, fun e => fb (orN e), fun e => f0 (orT e rfl), fun _ => rfl, fun e => f2 (orT e rfl), fun e => f3 (orT e rfl), fun e => f4 (orT e rfl), fun e => f5 (orT e rfl), fun e => f6 (orT e rfl), fun e1 e2 => f7 (orT e1 rfl) (orN e2), fun e => f8 (orT e rfl), fun e1 e2 => f9 (orT e1 rfl) (orN e2), fun e => f10 (orT e rfl), fun e1 e2 => f11 (orT e1 rfl) (orN e2), fun e => f12 (orT e rfl)⟩
        · cases ho
          obtain rfl := f1 (hdep { on := 1, ground := .data } (by simp) rfl)
          refine wpOpIn_of rfl rfl fun K hK => ?_
          clear hdep hcl hn11
          have G := Lib.hid (And.intro fb (And.intro f0 (And.intro f1 (And.intro f2 (And.intro f3 (And.intro f4 (And.intro f5 (And.intro f6 (And.intro f7 (And.intro f8 (And.intro f9 (And.intro f10 (And.intro f11 f12)))))))))))))
          have HK := Lib.hid hK
          clear fb f0 f1 f2 f3 f4 f5 f6 f7 f8 f9 f10 f11 f12 hK hEV hs hT hdn hdd hzz
          go_simp
          obtain ⟨fb, f0, f1, f2, f3, f4, f5, f6, f7, f8, f9, f10, f11, f12⟩ := G.out
          have hK := HK.out
          exact hK _ _ ⟨_, _, _, _, _, _, _, _, _, _, _, _, rfl, fun e => fb (orN e), fun e => f0 (orT e rfl), fun e => f1 (orT e rfl), fun _ => rfl, fun e => f3 (orT e rfl), fun e => f4 (orT e rfl), fun e => f5 (orT e rfl), fun e => f6 (orT e rfl), fun e1 e2 => f7 (orT e1 rfl) (orN e2), fun e => f8 (orT e rfl), fun e1 e2 => f9 (orT e1 rfl) (orN e2), fun e => f10 (orT e rfl), fun e1 e2 => f11 (orT e1 rfl) (orN e2), fun e => f12 (orT e rfl)⟩
        · cases ho
          obtain rfl := f2 (hdep { on := 2, ground := .data } (by simp) rfl)
          have hb := fb (hn11 3 (by omega) hs)
          have hc := (hT.below hb).grown.cell h0 hnb
          refine wpOpIn_of rfl rfl fun K hK => ?_
          clear hdep hcl hn11
          have G := Lib.hid (And.intro fb (And.intro f0 (And.intro f1 (And.intro f2 (And.intro f3 (And.intro f4 (And.intro f5 (And.intro f6 (And.intro f7 (And.intro f8 (And.intro f9 (And.intro f10 (And.intro f11 f12)))))))))))))
          have HK := Lib.hid hK
          clear fb f0 f1 f2 f3 f4 f5 f6 f7 f8 f9 f10 f11 f12 hK hEV hs hT hdn hdd hzz
          go_simp
          obtain ⟨fb, f0, f1, f2, f3, f4, f5, f6, f7, f8, f9, f10, f11, f12⟩ := G.out
          have hK := HK.out
          exact hK _ _ ⟨_, _, _, _, _, _, _, _, _, _, _, _, rfl, fun e => fb (orN e), fun e => f0 (orT e rfl), fun e => f1 (orT e rfl), fun e => f2 (orT e rfl), fun _ => rfl, fun e => f4 (orT e rfl), fun e => f5 (orT e rfl), fun e => f6 (orT e rfl), fun e1 e2 => f7 (orT e1 rfl) (orN e2), fun e => f8 (orT e rfl), fun e1 e2 => f9 (orT e1 rfl) (orN e2), fun e => f10 (orT e rfl), fun e1 e2 => f11 (orT e1 rfl) (orN e2), fun e => f12 (orT e rfl)⟩
        · cases ho
          refine wpOpIn_of rfl rfl fun K hK => ?_
          clear hdep hcl hn11
          have G := Lib.hid (And.intro fb (And.intro f0 (And.intro f1 (And.intro f2 (And.intro f3 (And.intro f4 (And.intro f5 (And.intro f6 (And.intro f7 (And.intro f8 (And.intro f9 (And.intro f10 (And.intro f11 f12)))))))))))))
          have HK := Lib.hid hK
          clear fb f0 f1 f2 f3 f4 f5 f6 f7 f8 f9 f10 f11 f12 hK hEV hs hT hdn hdd hzz
          go_simp
          obtain ⟨fb, f0, f1, f2, f3, f4, f5, f6, f7, f8, f9, f10, f11, f12⟩ := G.out
          have hK := HK.out
          exact hK _ _ ⟨_, _, _, _, _, _, _, _, _, _, _, _, rfl, fun e => fb (orN e), fun e => f0 (orT e rfl), fun e => f1 (orT e rfl), fun e => f2 (orT e rfl), fun e => f3 (orT e rfl), fun _ => rfl, fun e => f5 (orT e rfl), fun e => f6 (orT e rfl), fun e1 e2 => f7 (orT e1 rfl) (orN e2), fun e => f8 (orT e rfl), fun e1 e2 => f9 (orT e1 rfl) (orN e2), fun e => f10 (orT e rfl), fun e1 e2 => f11 (orT e1 rfl) (orN e2), fun e => f12 (orT e rfl)⟩
        · cases ho
          obtain rfl := f3 (hdep { on := 3, ground := .data } (by simp) rfl)
          obtain rfl := f4 (hdep { on := 4, ground := .data } (by simp) rfl)
          have hb := fb (hn11 5 (by omega) hs)
          have hlk := HML.out _ (hT.below hb).grown
          refine wpOpIn_of rfl rfl fun K hK => ?_
          clear hdep hcl hn11
          have G := Lib.hid (And.intro fb (And.intro f0 (And.intro f1 (And.intro f2 (And.intro f3 (And.intro f4 (And.intro f5 (And.intro f6 (And.intro f7 (And.intro f8 (And.intro f9 (And.intro f10 (And.intro f11 f12)))))))))))))
          have HK := Lib.hid hK
          clear fb f0 f1 f2 f3 f4 f5 f6 f7 f8 f9 f10 f11 f12 hK hEV hs hT hdn hdd hzz
          go_simp
          obtain ⟨fb, f0, f1, f2, f3, f4, f5, f6, f7, f8, f9, f10, f11, f12⟩ := G.out
          have hK := HK.out
          exact hK _ _ ⟨_, _, _, _, _, _, _, _, _, _, _, _, rfl, fun e => fb (orN e), fun e => f0 (orT e rfl), fun e => f1 (orT e rfl), fun e => f2 (orT e rfl), fun e => f3 (orT e rfl), fun e => f4 (orT e rfl), fun _ => rfl, fun e => f6 (orT e rfl), fun e1 e2 => f7 (orT e1 rfl) (orN e2), fun e => f8 (orT e rfl), fun e1 e2 => f9 (orT e1 rfl) (orN e2), fun e => f10 (orT e rfl), fun e1 e2 => f11 (orT e1 rfl) (orN e2), fun e => f12 (orT e rfl)⟩
        · cases ho
          refine wpOpIn_of rfl rfl fun K hK => ?_
          clear hdep hcl hn11
          have G := Lib.hid (And.intro fb (And.intro f0 (And.intro f1 (And.intro f2 (And.intro f3 (And.intro f4 (And.intro f5 (And.intro f6 (And.intro f7 (And.intro f8 (And.intro f9 (And.intro f10 (And.intro f11 f12)))))))))))))
          have HK := Lib.hid hK
          clear fb f0 f1 f2 f3 f4 f5 f6 f7 f8 f9 f10 f11 f12 hK hEV hs hT hdn hdd hzz
          go_simp
          obtain ⟨fb, f0, f1, f2, f3, f4, f5, f6, f7, f8, f9, f10, f11, f12⟩ := G.out
          have hK := HK.out
          exact hK _ _ ⟨_, _, _, _, _, _, _, _, _, _, _, _, rfl, fun e => fb (orN e), fun e => f0 (orT e rfl), fun e => f1 (orT e rfl), fun e => f2 (orT e rfl), fun e => f3 (orT e rfl), fun e => f4 (orT e rfl), fun e => f5 (orT e rfl), fun _ => rfl, fun e1 e2 => f7 (orT e1 rfl) (orN e2), fun e => f8 (orT e rfl), fun e1 e2 => f9 (orT e1 rfl) (orN e2), fun e => f10 (orT e rfl), fun e1 e2 => f11 (orT e1 rfl) (orN e2), fun e => f12 (orT e rfl)⟩
        · cases ho
          obtain rfl := f6 (hdep { on := 6, ground := .data } (by simp) rfl)
          have hb := fb (hn11 7 (by omega) hs)
          have h9 : s 9 = false := by
            cases h : s 9 with
            | false => rfl
            | true => exact absurd (hcl 9 _ rfl h { on := 7, ground := .data } (by simp) rfl) (by simp [hs])
          have h11 := hn11 7 (by omega) hs
          have h12 : s 12 = false := by
            cases h : s 12 with
            | false => rfl
            | true => exact absurd (hcl 12 _ rfl h { on := 11, ground := .data } (by simp) rfl) (by simp [h11])
          refine wpOpIn_of rfl rfl fun K hK => ?_
          clear hdep hcl hn11
          have G := Lib.hid (And.intro fb (And.intro f0 (And.intro f1 (And.intro f2 (And.intro f3 (And.intro f4 (And.intro f5 (And.intro f6 (And.intro f7 (And.intro f8 (And.intro f9 (And.intro f10 (And.intro f11 f12)))))))))))))
          have HK := Lib.hid hK
          clear fb f0 f1 f2 f3 f4 f5 f6 f7 f8 f9 f10 f11 f12 hK hEV hs hT hdn hdd hzz
          go_simp
          obtain ⟨fb, f0, f1, f2, f3, f4, f5, f6, f7, f8, f9, f10, f11, f12⟩ := G.out
          have hK := HK.out
          exact hK _ _ ⟨_, _, _, _, _, _, _, _, _, _, _, _, rfl, fun _ => hb.alloc hb.size _, fun e => f0 (orT e rfl), fun e => f1 (orT e rfl), fun e => f2 (orT e rfl), fun e => f3 (orT e rfl), fun e => f4 (orT e rfl), fun e => f5 (orT e rfl), fun e => f6 (orT e rfl), fun _ _ => ⟨_, rfl, hb.size, heap_alloc_new _ _⟩, fun e => f8 (orT e rfl), fun e => absurd (orT e rfl) (by rw [h9]; decide), fun e => f10 (orT e rfl), fun e => absurd (orT e rfl) (by rw [h11]; decide), fun e => absurd (orT e rfl) (by rw [h12]; decide)⟩
        · cases ho
          have hb := fb (hn11 8 (by omega) hs)
          have hc := box_cell (hT.below hb).e
          refine wpOpIn_of rfl rfl fun K hK => ?_
          clear hdep hcl hn11
          have G := Lib.hid (And.intro fb (And.intro f0 (And.intro f1 (And.intro f2 (And.intro f3 (And.intro f4 (And.intro f5 (And.intro f6 (And.intro f7 (And.intro f8 (And.intro f9 (And.intro f10 (And.intro f11 f12)))))))))))))
          have HK := Lib.hid hK
          clear fb f0 f1 f2 f3 f4 f5 f6 f7 f8 f9 f10 f11 f12 hK hEV hs hT hdn hdd hzz
          go_simp
          obtain ⟨fb, f0, f1, f2, f3, f4, f5, f6, f7, f8, f9, f10, f11, f12⟩ := G.out
          have hK := HK.out
          exact hK _ _ ⟨_, _, _, _, _, _, _, _, _, _, _, _, rfl, fun e => fb (orN e), fun e => f0 (orT e rfl), fun e => f1 (orT e rfl), fun e => f2 (orT e rfl), fun e => f3 (orT e rfl), fun e => f4 (orT e rfl), fun e => f5 (orT e rfl), fun e => f6 (orT e rfl), fun e1 e2 => f7 (orT e1 rfl) (orN e2), fun _ => rfl, fun e1 e2 => f9 (orT e1 rfl) (orN e2), fun e => f10 (orT e rfl), fun e1 e2 => f11 (orT e1 rfl) (orN e2), fun e => f12 (orT e rfl)⟩
        · cases ho
          have h7 := (hdep { on := 7, ground := .data } (by simp) rfl)
          have h8 := (hdep { on := 8, ground := .data } (by simp) rfl)
          have h11 := hn11 9 (by omega) hs
          have hb := fb h11
          obtain ⟨gb, rfl, hgb, hgc⟩ := f7 h7 hs
          obtain rfl := f8 h8
          have h12 : s 12 = false := by
            cases h : s 12 with
            | false => rfl
            | true => exact absurd (hcl 12 _ rfl h { on := 11, ground := .data } (by simp) rfl) (by simp [h11])
          obtain ⟨v9, w9, hr, q1, q2⟩ := append_one hgc hgb hb (hEV _ (hT.below hb).grown) hzl
          refine wpOpIn_of rfl rfl fun K hK => ?_
          refine wpIn_append_eq (.tmp 30) (.tmp 31) 22 rfl hr ?_
          exact hK _ _ ⟨_, _, _, _, _, _, _, _, _, _, _, _, rfl, fun _ => q2, fun e => f0 (orT e rfl), fun e => f1 (orT e rfl), fun e => f2 (orT e rfl), fun e => f3 (orT e rfl), fun e => f4 (orT e rfl), fun e => f5 (orT e rfl), fun e => f6 (orT e rfl), fun _ e2 => (orS e2).elim, fun _ => rfl, fun _ _ => q1, fun e => f10 (orT e rfl), fun e => absurd (orT e rfl) (by rw [h11]; decide), fun e => absurd (orT e rfl) (by rw [h12]; decide)⟩
        · cases ho
          have hb := fb (hn11 10 (by omega) hs)
          have hc := box_cell (hT.below hb).o
          refine wpOpIn_of rfl rfl fun K hK => ?_
          clear hdep hcl hn11
          have G := Lib.hid (And.intro fb (And.intro f0 (And.intro f1 (And.intro f2 (And.intro f3 (And.intro f4 (And.intro f5 (And.intro f6 (And.intro f7 (And.intro f8 (And.intro f9 (And.intro f10 (And.intro f11 f12)))))))))))))
          have HK := Lib.hid hK
          clear fb f0 f1 f2 f3 f4 f5 f6 f7 f8 f9 f10 f11 f12 hK hEV hs hT hdn hdd hzz
          go_simp
          obtain ⟨fb, f0, f1, f2, f3, f4, f5, f6, f7, f8, f9, f10, f11, f12⟩ := G.out
          have hK := HK.out
          exact hK _ _ ⟨_, _, _, _, _, _, _, _, _, _, _, _, rfl, fun e => fb (orN e), fun e => f0 (orT e rfl), fun e => f1 (orT e rfl), fun e => f2 (orT e rfl), fun e => f3 (orT e rfl), fun e => f4 (orT e rfl), fun e => f5 (orT e rfl), fun e => f6 (orT e rfl), fun e1 e2 => f7 (orT e1 rfl) (orN e2), fun e => f8 (orT e rfl), fun e1 e2 => f9 (orT e1 rfl) (orN e2), fun _ => rfl, fun e1 e2 => f11 (orT e1 rfl) (orN e2), fun e => f12 (orT e rfl)⟩
        · cases ho
          have hb := fb hs
          obtain rfl := f5 (hdep { on := 5, ground := .data } (by simp) rfl)
          have hq9 := hdep { on := 9, ground := .data } (by simp) rfl
          have hrow := f9 (hdep { on := 9, ground := .data } (by simp) rfl) hs
          obtain rfl := f10 (hdep { on := 10, ground := .data } (by simp) rfl)
          have h12 : s 12 = false := by
            cases h : s 12 with
            | false => rfl
            | true => exact absurd (hcl 12 _ rfl h { on := 11, ground := .data } (by simp) rfl) (by simp [hs])
          have hT1 := hT.below hb
          have hCC := callsIn_wide (n := 5 - 1) |>.2 (HI.out (d - 1) (by omega) _ N (HTR.out _ hT1.grown) (p ++ [x]) b2 mb2 h2 hg2 hdd (x :: zs) hzz _ hrow _ _ hT1.rows (HA.out.more HH.out hdn hlx))
          obtain ⟨A9, c9, rfl, _⟩ := hrow.reads
          refine wpOpIn_of rfl rfl fun K hK => ?_
          clear hdep hcl hn11
          have G := Lib.hid (And.intro fb (And.intro f0 (And.intro f1 (And.intro f2 (And.intro f3 (And.intro f4 (And.intro f5 (And.intro f6 (And.intro f7 (And.intro f8 (And.intro f9 (And.intro f10 (And.intro f11 f12)))))))))))))
          have HK := Lib.hid hK
          clear fb f0 f1 f2 f3 f4 f5 f6 f7 f8 f9 f10 f11 f12 hK hEV hs hT hdn hdd hzz
          go_simp
          obtain ⟨fb, f0, f1, f2, f3, f4, f5, f6, f7, f8, f9, f10, f11, f12⟩ := G.out
          have hK := HK.out
          refine ⟨trivial, hCC.mono ?_⟩
          rintro e w' ⟨v2, M2, rfl, q1, q2, q3, q4⟩
          exact hK _ _ ⟨_, _, _, _, _, _, _, _, _, _, _, _, rfl, fun e => (orS e).elim, fun e => f0 (orT e rfl), fun e => f1 (orT e rfl), fun e => f2 (orT e rfl), fun e => f3 (orT e rfl), fun e => f4 (orT e rfl), fun _ => rfl, fun e => f6 (orT e rfl), fun _ e2 => absurd (orN e2) (by rw [hq9]; decide), fun e => f8 (orT e rfl), fun _ e2 => (orS e2).elim, fun _ => rfl, fun _ _ => ⟨M2, q1, q2, (below_but hb _).trans q3, q4.imp id fun ⟨b, e1, e2⟩ => ⟨b, e1, Nat.le_trans hb.size e2⟩⟩, fun e => absurd (orT e rfl) (by rw [h12]; decide)⟩
        · cases ho
          have h11 := (hdep { on := 11, ground := .data } (by simp) rfl)
          obtain ⟨M2, q1, q2, q3, q4⟩ := f11 h11 hs
          have hn := hT.noted HV0.out q2 q3 q4
          have hmore := hdn.more hlx q1
          have hbo := hT.obox HV0.out q3
          have hc := box_cell hbo
          have hf := box_frozen hbo
          obtain ⟨a3, n3, c3, rfl⟩ := q2.form
          have h9 := hcl 11 _ rfl h11 { on := 9, ground := .data } (by simp) rfl
          refine wpOpIn_of rfl rfl fun K hK => ?_
          clear hdep hcl hn11
          have G := Lib.hid (And.intro fb (And.intro f0 (And.intro f1 (And.intro f2 (And.intro f3 (And.intro f4 (And.intro f5 (And.intro f6 (And.intro f7 (And.intro f8 (And.intro f9 (And.intro f10 (And.intro f11 f12)))))))))))))
          have HK := Lib.hid hK
          clear fb f0 f1 f2 f3 f4 f5 f6 f7 f8 f9 f10 f11 f12 hK hEV hs hT hdn hdd hzz
          go_simp
          obtain ⟨fb, f0, f1, f2, f3, f4, f5, f6, f7, f8, f9, f10, f11, f12⟩ := G.out
          have hK := HK.out
          exact hK _ _ ⟨_, _, _, _, _, _, _, _, _, _, _, _, rfl, fun e => absurd (orN e) (by rw [h11]; decide), fun e => f0 (orT e rfl), fun e => f1 (orT e rfl), fun e => f2 (orT e rfl), fun e => f3 (orT e rfl), fun e => f4 (orT e rfl), fun e => f5 (orT e rfl), fun e => f6 (orT e rfl), fun _ e2 => absurd (orN e2) (by rw [h9]; decide), fun e => f8 (orT e rfl), fun _ e2 => absurd (orN e2) (by rw [h11]; decide), fun e => f10 (orT e rfl), fun _ e2 => (orS e2).elim, fun _ => ⟨hn.2, _, _, hmore, by rw [← List.append_assoc]; exact hn.1⟩⟩
      · intro s a' W1 hs hJ
        obtain ⟨x23, x24, x25, x26, x27, x28, x29, x30, x31, x32, x33, x34, rfl, fb, f0, f1, f2, f3, f4, f5, f6, f7, f8, f9, f10, f11, f12⟩ := hJ
        have hfin := Lib.hid (f12 (hs 12 (by simp)))
        clear fb f0 f1 f2 f3 f4 f5 f6 f7 f8 f9 f10 f11 f12 hs hEV
        gi_wp2
        exact hfin.out
      · exact ⟨_, _, _, _, _, _, _, _, _, _, _, _, rfl, fun _ => below_dr (Below.refl _ _), (fun e => by cases e), (fun e => by cases e), (fun e => by cases e), (fun e => by cases e), (fun e => by cases e), (fun e => by cases e), (fun e => by cases e), (fun e => by cases e), (fun e => by cases e), (fun e => by cases e), (fun e => by cases e), (fun e => by cases e), (fun e => by cases e)⟩
    case done =>
      rintro left D' W hfin hD' ⟨v', M, hdn, hT⟩ hK
      have hco := box_cell hT.o
      have HTT := Lib.hid hT
      have HUN := Lib.hid (hdn.under hfin HH.out)
      have HMX := Lib.hid (HT4.out.grown.size)
      clear hT hdn
      gi_wp2
      refine ⟨by simp, .inl ⟨_, _, rfl, run_takeDeferred hK, ?_⟩⟩
      have hTE := fun o => HTT.out.turn (TurnFrom.putObj (B := w.heap.size) o (Nat.le_trans HMX.out hD') hK rfl) (Nat.le_refl _)
      exact ⟨_, results_tmp rfl _ _ _, v', M, rfl, HUN.out, (hTE _).rows, (hTE _).grown, (hTE (.deferred none)).own.imp id fun ⟨b, q1, q2⟩ => ⟨b, q1, by omega⟩⟩
end Go.Proofs.Yteaadpgammbdgaa.PA
