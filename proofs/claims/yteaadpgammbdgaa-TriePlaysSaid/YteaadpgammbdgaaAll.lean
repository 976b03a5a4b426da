/- All words of a trie, in their order: trie.All. -/
import Derived.Test.YteaadpgammbdgaaWords
import Derived.Test.YteaadpgammbdgaaLex
import Derived.Test.YteaadpgammbdgaaTrieShelf
import Derived.Shelf.SlSortCmp.NoneTotal
namespace Go.Proofs.Yteaadpgammbdgaa.PA
open Go.RowKit Go.Shelf Go.Lib Go.Proofs.YteaadpgammbdgaaW.PrintWords Go.Proofs.YteaadpgammbdgaaW.PrintLast Go.Proofs.YteaadpgammbdgaaW.PrintMore
open Go.Sort (SWO PermIn SortedIn Holds)
set_option linter.unusedVariables false
set_option linter.unusedSimpArgs false

theorem ext_all {α : Type} (d : Array α) (n : Nat) (h : d.size = n) : d.extract 0 n = d := by subst h; exact Array.extract_size
theorem WordRow.le {w : World} {u : Value} {zs : List Int} (h : WordRow w u zs) : ∃ A c, u = .slice A zs.length c ∧ Kd.C (Kd.int .i32) w A zs.length zs ∧ zs.length ≤ c := by
  obtain ⟨A, c, rfl, hC, _⟩ := h.reads
  refine ⟨A, c, rfl, hC, ?_⟩
  rcases h.2 with ⟨e, _⟩ | ⟨g, cap, cur, e, _, _, h1, _⟩
  · simp only [Value.slice.injEq] at e; omega
  · simp only [Value.slice.injEq] at e; omega
theorem sw_block {α : Type} [Inhabited α] (enc : α → Value) (W : World) (blk off m : Nat) (dk : Array α) (os : Array Obj) {b : Nat} (hb : b < W.heap.size) (hn : b ≠ blk) : (sortWorld enc W blk off m dk os).heap[b]? = W.heap[b]? := by
  show ((W.heap.modify blk _) ++ os)[b]? = _
  rw [Array.getElem?_append, if_pos (by rw [Array.size_modify]; exact hb), Array.getElem?_modify, if_neg (fun e => hn e.symm)]
theorem sw_row {α : Type} [Inhabited α] (enc : α → Value) (W : World) (blk m : Nat) (dk : Array α) (os : Array Obj) {cur : Array Value} {e : TypeId} (h : W.heap[blk]? = some (.cells cur e (0, 0))) : (sortWorld enc W blk 0 m dk os).heap[blk]? = some (.cells (Go.Sort.putCells enc 0 dk cur) e (0, 0)) := by
  have hb := (Array.getElem?_eq_some_iff.1 h).1
  show ((W.heap.modify blk (Go.Sort.onCells (Go.Sort.putCells enc 0 dk))) ++ os)[blk]? = _
  rw [Array.getElem?_append, if_pos (by rw [Array.size_modify]; exact hb), Array.getElem?_modify, if_pos rfl, h]
  rfl
theorem sw_below {α : Type} [Inhabited α] (enc : α → Value) (W : World) (blk off m : Nat) (dk : Array α) (os : Array Obj) {B : Nat} (hB : B ≤ blk) (hb : blk < W.heap.size) : Below B W (sortWorld enc W blk off m dk os) := by
  refine ⟨rfl, rfl, rfl, ?_, fun k hk => sw_block enc W blk off m dk os (by omega) (by omega)⟩
  show W.heap.size ≤ ((W.heap.modify blk _) ++ os).size
  simp
set_option maxRecDepth 100000 in
set_option maxHeartbeats 1000000 in
theorem all1_calls {u v : Value} {xs ys : List Int} {W : World} (hu : WordRow W u xs) (hv : WordRow W v ys) (hl : xs.length < 4611686018427387904) :
    Calls Try.prog 57 #[u, v] W fun e w' => e = .returned (.int .i64 (cmpL xs ys)) ∧ Drawn0 W w' := by
  obtain ⟨A, c, rfl, hA, hc⟩ := hu.le
  obtain ⟨A2, c2, rfl, hA2, hc2⟩ := hv.le
  obtain ⟨k, hk⟩ := (compare_ev xs ys hl).get
  have HC := Lib.hid (slices_Compare_int32_int32.calls k A c xs A2 c2 ys _ W hA hc hA2 hc2 hk)
  generalize cmpL xs ys = r at HC ⊢
  clear hu hv hA hA2 hk hc hc2 hl
  go_enter Try.func57, Try.ntmps57
  go_wp2_with (go_at_call 58; refine HC.out.mono ?_; rintro e w' ⟨rfl, ⟨⟨nq, rfl⟩⟩⟩)
  go_ret
  exact ⟨rfl, ⟨⟨nq, rfl⟩⟩⟩
/-- The words in their order. -/
def Told2 (L M : List (List Int)) : Prop := L.Perm M ∧ L.Pairwise (fun a b => ltL a b = true)
theorem told2_nil : Told2 [] [] := ⟨.refl _, .nil⟩
theorem sort_rows {W : World} {v : Value} {L : List (List Int)} (hR : RowsAt W v L) (hnd : L.Nodup) (hlen : ∀ u ∈ L, u.length < 4611686018427387904) (hL : L.length < 4611686018427387904) {B : Nat} (hB : ∀ b, v.ownBlock = some b → B ≤ b) (hBs : B ≤ W.heap.size) :
    Calls Try.prog 56 #[v, .func (.func 57) #[] #[]] W fun e w' => e = .returned (.tuple #[]) ∧ (∃ L', Told2 L' L ∧ RowsAt w' v L') ∧ Below B W w' := by
  obtain ⟨vs, ho, hw⟩ := hR
  rcases ho.2 with ⟨rfl, h0⟩ | ⟨blk, cap, cur, rfl, _, hh, hlc, hcm, hcs, htk⟩
  · obtain rfl : L = [] := List.eq_nil_of_length_eq_zero h0
    refine (AnyF.slices_SortFunc_none { Try.sortWords with } none 0 (.func (.func 57) #[] #[]) W).mono ?_
    rintro e w' ⟨rfl, rfl⟩
    exact ⟨rfl, ⟨[], told2_nil, RowsAt.nil _⟩, Below.refl _ _⟩
  · have hblk : blk < W.heap.size := (Array.getElem?_eq_some_iff.1 hh).1
    have hB' : B ≤ blk := hB blk rfl
    have hvl : vs.length = L.length := by have := ho.1; omega
    rw [Nat.mul_one] at hcs htk
    by_cases hz : L = []
    · subst hz
      refine (AnyF.slices_SortFunc_none { Try.sortWords with } (some ⟨blk, 0, none⟩) cap (.func (.func 57) #[] #[]) W).mono ?_
      rintro e w' ⟨rfl, rfl⟩
      exact ⟨rfl, ⟨[], told2_nil, vs, ho, hw⟩, Below.refl _ _⟩
    have hpos : 0 < L.length := by cases L with | nil => exact absurd rfl hz | cons _ _ => simp
    haveI : Inhabited (Fin L.length) := ⟨⟨0, hpos⟩⟩
    let enc : Fin L.length → Value := fun i => vs[i.1]'(by rw [hvl]; exact i.2)
    let cf : Fin L.length → Fin L.length → Int := fun i j => cmpL L[i.1] L[j.1]
    have hencRow : ∀ i : Fin L.length, WordRow W (enc i) L[i.1] := fun i => hw i.1 _ _ (List.getElem?_eq_getElem (by rw [hvl]; exact i.2)) (List.getElem?_eq_getElem i.2)
    have hltO : ∀ i j, ltOf cf i j = ltL L[i.1] L[j.1] := fun i j => rfl
    have hO : SWO (ltOf cf) := ⟨fun x => by rw [hltO, ltL_irrefl], fun x y z h1 h2 => by rw [hltO] at *; exact ltL_trans h1 h2, fun x y z h1 h2 => by rw [hltO] at *; exact ltL_ntrans h1 h2⟩
    have h1 : OneCell enc := fun i => by
      obtain ⟨A, c, e, _⟩ := (hencRow i).le
      rw [e]; rfl
    have hcell : ∀ j, j < L.length → cur[j]? = vs[j]? := fun j hj => by
      rw [← htk, List.getElem?_take, if_pos hj, Array.getElem?_toList]
    have hd : ∀ j (hj : j < L.length), (Array.ofFn (n := L.length) id)[j]! = (⟨j, hj⟩ : Fin L.length) := fun j hj => by
      rw [getElem!_pos _ _ (by simpa using hj)]; simp
    have hH : Holds enc W blk 0 (Array.ofFn (n := L.length) id) := fun j hj => by
      rw [Array.size_ofFn] at hj
      refine ⟨?_, by unfold World.frozen?; simp [hh]⟩
      unfold World.cell?
      simp only [hh, Nat.zero_add]
      rw [hcell j hj, hd j hj]
      exact List.getElem?_eq_getElem _
    have eg : ∀ args w, (callFunc 57 args).run Try.prog w = .ok (.enter 57 args) w := enters_of Try.func57 (by kernel_rfl) rfl
    have hrow2 : ∀ (m : Nat) (os : Array Obj) (dk : Array (Fin L.length)) (i : Fin L.length), WordRow (sortWorld enc W blk 0 m dk os) (enc i) L[i.1] := fun m os dk i => by
      refine row_kept (hencRow i) fun g cs _ hc => ?_
      refine (sw_block enc W blk 0 m dk os (Array.getElem?_eq_some_iff.1 hc).1 fun e => ?_).trans hc
      subst e
      rw [hh] at hc
      simp only [Option.some.injEq, Obj.cells.injEq] at hc
      exact absurd hc.2.1 (by decide)
    have hcmp : CmpLays1 Try.prog 57 #[] enc cf blk 0 (Array.ofFn (n := L.length) id).size W := fun m os dk _ x y => by
      refine (all1_calls (hrow2 m os dk x) (hrow2 m os dk y) (hlen _ (List.getElem_mem _))).mono ?_
      rintro e w' ⟨rfl, ⟨⟨n, rfl⟩⟩⟩
      exact ⟨rfl, n, #[], by rw [Go.Sort.grow_empty]⟩
    have hcon := Any.slices_SortFunc Try.sortWords enc h1 cf hO 57 #[] blk 0 cap (Array.ofFn (n := L.length) id) W eg hcmp hH hblk (by rw [Array.size_ofFn]; exact hL)
    rw [Array.size_ofFn] at hcon
    refine hcon.mono ?_
    rintro e w' ⟨rfl, d', n, os, hp, hs, rfl⟩
    have hds : d'.size = L.length := by have := hp.1; rwa [Array.size_ofFn] at this
    refine ⟨rfl, ⟨d'.toList.map (fun i => L[i.1]), ⟨?_, ?_⟩, d'.toList.map enc, ?_, ?_⟩, sw_below enc W blk 0 n d' os hB' hblk⟩
    · have hpp := hp.2.2
      rw [ext_all d' L.length hds, ext_all _ L.length (Array.size_ofFn ..)] at hpp
      have := hpp.map (fun i : Fin L.length => L[i.1])
      refine this.trans ?_
      rw [Array.toList_ofFn]
      have e : (List.ofFn (n := L.length) id).map (fun i : Fin L.length => L[i.1]) = L := by
        apply List.ext_getElem?
        intro i
        by_cases hi : i < L.length
        · simp [hi, List.getElem?_map]
        · rw [List.getElem?_eq_none (by simp; omega), List.getElem?_eq_none (by omega)]
      rw [e]
    · have hnd' : (d'.toList.map (fun i => L[i.1])).Nodup := by
        have hpp := hp.2.2
        rw [ext_all d' L.length hds, ext_all _ L.length (Array.size_ofFn ..)] at hpp
        have hperm := hpp.map (fun i : Fin L.length => L[i.1])
        rw [Array.toList_ofFn] at hperm
        have e : (List.ofFn (n := L.length) id).map (fun i : Fin L.length => L[i.1]) = L := by
          apply List.ext_getElem?
          intro i
          by_cases hi : i < L.length
          · simp [hi, List.getElem?_map]
          · rw [List.getElem?_eq_none (by simp; omega), List.getElem?_eq_none (by omega)]
        rw [e] at hperm
        exact hperm.nodup_iff.2 hnd
      rw [List.pairwise_iff_getElem]
      intro i j hi hj hij
      have hi' : i < d'.size := by simpa using hi
      have hj' : j < d'.size := by simpa using hj
      have hsi := hs i j (Nat.zero_le _) hij (by omega)
      rw [hltO, getElem!_pos d' j hj', getElem!_pos d' i hi'] at hsi
      have hne : (d'.toList.map (fun i => L[i.1]))[i] ≠ (d'.toList.map (fun i => L[i.1]))[j] := fun e => by
        have := (List.getElem_inj hnd').1 e
        omega
      simp only [List.getElem_map, Array.getElem_toList] at hne ⊢
      rcases ltL_tri L[(d'[i]).1] L[(d'[j]).1] with q | q | q
      · exact q
      · exact absurd q hne
      · rw [hsi] at q; cases q
    · refine ⟨by simp, .inr ⟨blk, cap, _, by simp [hds], Nat.zero_le _, sw_row enc W blk n d' os hh, by simp [hds]; exact hlc, hcm, by simp [Go.Sort.putCells, hcs], ?_⟩⟩
      rw [Nat.mul_one, List.length_map, Array.length_toList, hds]
      apply List.ext_getElem?
      intro j
      rw [List.getElem?_take]
      split
      · rename_i hj
        rw [Array.getElem?_toList]
        simp only [Go.Sort.putCells, Array.getElem?_mapIdx]
        rw [Array.getElem?_eq_getElem (by omega), Option.map_some, if_pos ⟨Nat.zero_le _, by omega⟩, Nat.sub_zero, getElem!_pos d' j (by omega), List.getElem?_map, Array.getElem?_toList, Array.getElem?_eq_getElem (by omega)]
        rfl
      · rename_i hj
        rw [List.getElem?_eq_none (by simp; omega)]
    · intro i u zs hu hz
      rw [List.getElem?_map, Array.getElem?_toList] at hu hz
      cases hd' : d'[i]? with
      | none => rw [hd'] at hu; cases hu
      | some x =>
        rw [hd'] at hu hz
        simp only [Option.map_some, Option.some.injEq] at hu hz
        subst hu hz
        exact hrow2 n os d' x
set_option maxRecDepth 100000 in
set_option maxHeartbeats 4000000 in
theorem all_calls {W : World} {tb N n : Nat} {g : Gh} (T : TrieAt W tb N g n) {D m : Nat} (hD : ∀ q, g q ≠ none → q.length ≤ D) (hD2 : D ≤ 1000) (hm : m < 1000000) (hcap : ∀ K : List (List Int), K.Nodup → (∀ u ∈ K, isWord g u.reverse = true) → K.length ≤ m) :
    Calls Try.prog 27 #[.pointer (some ⟨tb, 0, none⟩)] W fun e w' => ∃ v L, e = .returned v ∧ RowsAt w' v L ∧ (∀ u, u ∈ L ↔ isWord g u.reverse = true) ∧ L.Pairwise (fun a b => ltL a b = true) ∧ Below W.heap.size W w' := by
  obtain ⟨rb, mb, hh, hobj, hroot⟩ := T.obj
  have hct : W.cell? ⟨tb, 0, none⟩ = some (.pointer (some ⟨rb, 0, none⟩)) := by unfold World.cell?; simp only [hobj]; rfl
  have hA : Ahead g [] [] := ⟨.nil, fun u hu => by simp at hu, fun u hu => by simp at hu⟩
  have hWd := words_calls hD hD2 hm hcap D W N T.tree [] rb mb hh hroot (by simp) [] rfl (.slice none 0 0) (World.ownsRow_nil W _ _ _) (.slice none 0 0) [] (RowsAt.nil W) hA
  have HW := Lib.hid hWd
  have HD := Lib.hid hD
  have HCap := Lib.hid hcap
  clear T hobj hroot hA hWd hD hcap
  go_enter Try.func27, Try.ntmps27
  go_wp2_with fail
  refine HW.out.mono ?_
  rintro e w1 ⟨v, L, rfl, hU, hR, hg, ho⟩
  rw [List.nil_append] at hR
  have hb : Below W.heap.size W w1 := ⟨hg.os, hg.tape, hg.output, hg.size, fun k hk => hg.block k hk (by simp [Value.ownBlock])⟩
  have hown : ∀ b, v.ownBlock = some b → W.heap.size ≤ b := fun b hb' => by
    rcases ho with q | ⟨b', q, hle⟩
    · rw [q] at hb'; simp [Value.ownBlock] at hb'
    · rw [q] at hb'; cases hb'; exact hle
  have hmem : ∀ u, u ∈ L ↔ isWord g u.reverse = true := fun u => (hU.2 u).trans ⟨fun ⟨q, h1, h2⟩ => by rw [h1]; exact h2, fun h => ⟨u.reverse, rfl, h⟩⟩
  have hLm := HCap.out L hU.1 fun u hu => (hmem u).1 hu
  have hlen : ∀ u ∈ L, u.length < 4611686018427387904 := fun u hu => by
    have h1 := (hmem u).1 hu
    have h2 := HD.out u.reverse (fun e => by unfold isWord at h1; rw [e] at h1; cases h1)
    rw [List.length_reverse] at h2; omega
  have hS := sort_rows hR hU.1 hlen (by omega) hown hb.size
  obtain ⟨A, n1, c1, rfl⟩ := hR.form
  have HS := Lib.hid hS
  have HB := Lib.hid hb
  have HM := Lib.hid hmem
  clear hU hR hg ho hb hown hmem hlen hS hLm
  go_wp2_with fail
  refine HS.out.mono ?_
  rintro e w2 ⟨rfl, ⟨L', hT, hR⟩, hb2⟩
  have HR := Lib.hid hR
  have HB2 := Lib.hid hb2
  have HT := Lib.hid hT
  clear hR hb2 hT
  go_wp2
  go_ret
  exact ⟨_, L', rfl, HR.out, fun u => (HT.out.1.mem_iff).trans (HM.out u), HT.out.2, HB.out.trans HB2.out⟩
end Go.Proofs.Yteaadpgammbdgaa.PA
