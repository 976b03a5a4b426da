/- A row of words, one more at its place, one fewer: what append, copy and a store leave; the trie meanwhile. -/
import Derived.Test.YteaadpgammbdgaaMRow
namespace Go.Proofs.Yteaadpgammbdgaa.PA
open Go.RowKit Go.Shelf Go.Proofs.YteaadpgammbdgaaW.PrintWords Go.Proofs.YteaadpgammbdgaaW.PrintLast Go.Proofs.YteaadpgammbdgaaW.PrintMore
set_option linter.unusedVariables false
set_option linter.unusedSimpArgs false

theorem wordy_row {W : World} {base e n : Nat} {v : Value} {vs : List Value} (he : e = 22) (h : W.ownsRow base e 1 v n vs) : ∀ g, v.ownBlock = some g → base ≤ g ∧ ∀ o, W.heap[g]? = some o → wordy o = true := fun g hg => by
  rcases h.2 with ⟨rfl, _⟩ | ⟨g', cap, cur, rfl, hb, hh, _⟩
  · cases hg
  · cases hg
    refine ⟨hb, fun o ho => ?_⟩
    rw [hh] at ho; cases ho; subst he; rfl
theorem ins_all {w wr : World} {M M' : List (List Int)} {v : Value} {tb nb p c : Nat} {A : Option Addr} {zs : List Int} (hm : MRow w wr v M) (hH : Held w.heap.size w wr tb nb M') (hp : p ≤ M.length) (hM : M.length ≤ 1000) (hW : WordAt w.heap.size w A zs) (hc : zs.length ≤ c) :
    ∃ g cap w1, (Builtin.append_ #[50, 50] 50 #[v, .slice (some ⟨wr.heap.size, 0, none⟩) 1 1]).run Try.prog (wr.alloc (.cells #[.slice none 0 0] 22)) = .ok (.slice (some ⟨g, 0, none⟩) (M.length + 1) cap) w1 ∧ M.length + 1 ≤ cap ∧ cap ≤ maxLen ∧
      ∀ (dp : Option Addr) (dc sc : Nat), (p < M.length → dp = some ⟨g, p + 1, none⟩) → ∃ w2, (Builtin.copy_ #[50, 50] 3 #[.slice dp (M.length + 1 - (p + 1)) dc, .slice (some ⟨g, p, none⟩) (M.length + 1 - p) sc]).run Try.prog w1.drew = .ok (goInt ((M.length - p : Nat) : Int)) w2 ∧
        (∃ x, w2.cell? ⟨g, p, none⟩ = some x) ∧ w2.frozen? ⟨g, p, none⟩ = false ∧ MRow w (w2.setCell ⟨g, p, none⟩ (.slice A zs.length c)) (.slice (some ⟨g, 0, none⟩) (M.length + 1) cap) (insL M p zs) ∧ Held w.heap.size w (w2.setCell ⟨g, p, none⟩ (.slice A zs.length c)) tb nb M' := by
  obtain ⟨vs, ho, hws⟩ := hm.parts
  have hle := hH.le
  have hb1 : Below wr.heap.size wr (wr.alloc (.cells #[.slice none 0 0] 22)) := (Below.refl _ _).alloc (Nat.le_refl _) _
  have ho1 := row_same (w' := wr.alloc (.cells #[.slice none 0 0] 22)) ho fun g cs _ hc => (hb1.block g (Array.getElem?_eq_some_iff.1 hc).1).trans hc
  obtain ⟨v1, w1, hr, q2, q3, q5⟩ := run_append_ws (c := 1) (ad := ⟨wr.heap.size, 0, none⟩) (news := [.slice none 0 0]) (m := 1) ho1 rfl (fun j u hj => by
      cases j with
      | zero => simp only [List.getElem?_cons_zero, Option.some.injEq] at hj; subst hj; exact box_cell (World.alloc_heap_new wr _)
      | succ j => simp at hj) (fun u hu => by rw [List.mem_singleton.1 hu]; rfl) (by simp; omega) (by omega)
  obtain ⟨g, cap, cur, rfl, hg0, hh, h1, h2, h3, h4⟩ := own_form q2 (by omega)
  have hl : vs.length = M.length := hws.1
  refine ⟨g, cap, w1, hr, h1, h2, fun dp dc sc hdp => ?_⟩
  have q2d : w1.drew.ownsRow w.heap.size 22 1 (.slice (some ⟨g, 0, none⟩) (M.length + 1) cap) (M.length + 1) (vs ++ [.slice none 0 0]) := row_same q2 fun g cs _ hc => hc
  obtain ⟨w2, hr2, q6, q7⟩ := run_copy_up (dc := dc) (sc := sc) q2d hp hdp (fun u hu => by
    rcases List.mem_append.1 hu with h | h
    · exact hws.one u h
    · rw [List.mem_singleton.1 h]; rfl)
  have hxs : p < ((vs ++ [Value.slice none 0 0]).take (p + 1) ++ ((vs ++ [Value.slice none 0 0]).drop p).take (M.length - p)).length := by
    simp only [List.length_append, List.length_take, List.length_cons, List.length_nil]; omega
  obtain ⟨c1, c2⟩ := own_cell q6 (List.getElem?_eq_getElem hxs)
  obtain ⟨q8, q9⟩ := own_set q6 (p := p) (by omega) (.slice A zs.length c)
  have hins : insL M p zs = M.take p ++ zs :: M.drop p := rfl
  have hil : (insL M p zs).length = M.length + 1 := by rw [hins]; simp; omega
  refine ⟨w2, hr2, ⟨_, c1⟩, c2, ⟨vs.take p ++ .slice A zs.length c :: vs.drop p, ?_, ?_⟩, ?_⟩
  · rw [hil]
    rw [← hl, ins_values (by omega)] at q8
    rw [← hl]; exact q8
  · exact (WordsOf.append (hws.take p) ((hws.drop p).cons hc hW)).2
  · have H1 : Held w.heap.size w w1 tb nb M' := (hH.step hb1).grown q3 (wordy_row rfl ho1)
    have H2 : Held w.heap.size w w1.drew tb nb M' := H1.step (below_dr (Below.refl _ _))
    have H3 := H2.grown q7 fun k hk => by
      cases hk
      exact wordy_row rfl q2d g rfl
    exact H3.grown q9 fun k hk => by
      cases hk
      exact wordy_row rfl q6 g rfl
theorem del_all {w wr : World} {M M' : List (List Int)} {tb nb p g cap c' : Nat} (hm : MRow w wr (.slice (some ⟨g, 0, none⟩) M.length cap) M) (hH : Held w.heap.size w wr tb nb M') (hp : p < M.length) (hM : M.length ≤ 1000) :
    ∃ v1 w1, (Builtin.append_ #[50, 50] 50 #[.slice none 0 0, .slice (some ⟨g, 0, none⟩) p cap]).run Try.prog wr = .ok v1 w1 ∧
      ∀ (ad : Addr), (p + 1 < M.length → ad = ⟨g, p + 1, none⟩) → ∃ v2 w2, (Builtin.append_ #[50, 50] 50 #[v1, .slice (some ad) (M.length - (p + 1)) c']).run Try.prog w1 = .ok v2 w2 ∧ MRow w w2 v2 (delL M p) ∧ Held w.heap.size w w2 tb nb M' := by
  obtain ⟨vs, ho, hws⟩ := hm.parts
  have hle := hH.le
  have hl : vs.length = M.length := hws.1
  obtain ⟨v1, w1, hr, q2, q3, q5⟩ := run_append_ws (c := cap) (base := wr.heap.size) (ad := ⟨g, 0, none⟩) (news := vs.take p) (m := p) (World.ownsRow_nil wr _ _ _) (by simp; omega) (fun j u hj => by
      rw [add_none, Nat.zero_add]
      rw [List.getElem?_take] at hj
      split at hj
      · exact (own_cell ho hj).1
      · cases hj) (fun u hu => hws.one u (List.mem_of_mem_take hu)) (Nat.le_refl _) (by omega)
  have hB1 : Below wr.heap.size wr w1 := ⟨q3.os, q3.tape, q3.output, q3.size, fun k hk => q3.block k hk (by simp [Value.ownBlock])⟩
  refine ⟨v1, w1, hr, fun ad had => ?_⟩
  have ho1 := row_same (w' := w1) ho fun g cs _ hc => (hB1.block g (Array.getElem?_eq_some_iff.1 hc).1).trans hc
  rw [Nat.zero_add, List.nil_append] at q2
  obtain ⟨v2, w2, hr2, q6, q7, q8⟩ := run_append_ws (c := c') (ad := ad) (news := vs.drop (p + 1)) (m := M.length - (p + 1)) q2 (by simp; omega) (fun j u hj => by
      rw [List.getElem?_drop] at hj
      have hlt := (List.getElem?_eq_some_iff.1 hj).1
      rw [had (by omega), add_none]
      exact (own_cell ho1 hj).1) (fun u hu => hws.one u (List.mem_of_mem_drop hu)) hB1.size (by omega)
  refine ⟨v2, w2, hr2, ⟨vs.take p ++ vs.drop (p + 1), ?_, (WordsOf.append (hws.take p) (hws.drop (p + 1))).2⟩, ?_⟩
  · have hdl : (delL M p).length = p + (M.length - (p + 1)) := by unfold delL; simp; omega
    rw [hdl]
    exact ⟨q6.1, q6.2.imp id fun ⟨g', cap', cur', e1, e2, e3⟩ => ⟨g', cap', cur', e1, Nat.le_trans hle e2, e3⟩⟩
  · exact (hH.step hB1).grown q7 fun k hk => ⟨Nat.le_trans hle (wordy_row rfl q2 k hk).1, (wordy_row rfl q2 k hk).2⟩
theorem WordAt.nil_of {B : Nat} {W : World} {A : Option Addr} {zs : List Int} (h : WordAt B W A zs) (hA : A = none) : zs = [] := by
  cases zs with
  | nil => rfl
  | cons z zs =>
    obtain ⟨b, off, e, _⟩ := C_plain h.row (by simp) (by decide)
    rw [hA] at e; cases e
/-- append(nil, w...). -/
theorem copy_word {B c : Nat} {W : World} {A : Option Addr} {zs : List Int} (h : WordAt B W A zs) (hl : zs.length ≤ 1000) :
    ∃ A2 c2 w1, (Builtin.append_ #[22, 22] 22 #[.slice none 0 0, .slice A zs.length c]).run Try.prog W = .ok (.slice A2 zs.length c2) w1 ∧ WordRow w1 (.slice A2 zs.length c2) zs ∧ Below W.heap.size W w1 := by
  obtain ⟨v1, w1, hr1, ho1, hg1, hb1⟩ := run_append_c (base := W.heap.size) (xs := []) (c := c) (World.ownsRow_nil W _ _ _) h.row h.nil_of (Nat.le_refl _) (by simp; omega)
  have hB1 : Below W.heap.size W w1 := (Below.refl _ W).grown hg1 (Nat.le_refl _) (fun k hk => by simp [Value.ownBlock] at hk)
  rw [List.nil_append] at ho1
  have hr : WordRow w1 v1 zs := row_base ho1
  obtain ⟨A2, c2, rfl, _⟩ := hr.reads
  exact ⟨A2, c2, w1, hr1, hr, hB1⟩
/-- What a step leaves. -/
def Stepped (w wx : World) (tb nb n : Nat) (u : List Int) (b : Bool) (v : Value) : Prop :=
  ∃ M, Held w.heap.size w wx tb nb M ∧ MRow w wx v M ∧ SortedL M ∧ (∀ u ∈ M, u.length ≤ 30) ∧ M.length ≤ n ∧ decide (u ∈ M) = (b && decide (0 < u.length))
theorem stepped_same {w wx : World} {tb nb k : Nat} {M : List (List Int)} {v : Value} {u : List Int} {b : Bool} (hH : Held w.heap.size w wx tb nb M) (hm : MRow w wx v M) (hs : SortedL M) (h30 : ∀ u ∈ M, u.length ≤ 30) (hl : M.length ≤ k) (hu : decide (u ∈ M) = (b && decide (0 < u.length))) : Stepped w wx tb nb (k + 1) u b v :=
  ⟨M, hH, hm, hs, h30, by omega, hu⟩
theorem stepped_ins {w wx : World} {tb nb k p : Nat} {M : List (List Int)} {v : Value} {u : List Int} (hH : Held w.heap.size w wx tb nb (u :: M)) (hm : MRow w wx v (insL M p u)) (hs : SortedL M) (hp : PosAt M u p) (hu : u ∉ M) (h30 : ∀ u ∈ M, u.length ≤ 30) (hu30 : u.length ≤ 30) (h0 : 0 < u.length) (hl : M.length ≤ k) : Stepped w wx tb nb (k + 1) u true v := by
  have hpm := insL_perm M p u
  refine ⟨insL M p u, hH.perm hpm.symm, hm, insL_sorted hp hs hu, fun x hx => ?_, ?_, ?_⟩
  · rcases List.mem_cons.1 (hpm.mem_iff.1 hx) with e | e
    · rw [e]; exact hu30
    · exact h30 x e
  · rw [hpm.length_eq]; simp only [List.length_cons]; omega
  · rw [decide_eq_true (hpm.mem_iff.2 List.mem_cons_self), decide_eq_true h0]; rfl
theorem stepped_del {w wx : World} {tb nb k p : Nat} {M : List (List Int)} {v : Value} {u : List Int} (hH : Held w.heap.size w wx tb nb (M.erase u)) (hm : MRow w wx v (delL M p)) (hs : SortedL M) (hp : p < M.length) (hu : M.getD p [] = u) (h30 : ∀ u ∈ M, u.length ≤ 30) (hl : M.length ≤ k) : Stepped w wx tb nb (k + 1) u false v := by
  have hpm := delL_perm hp
  have hpe := delL_erase hp
  rw [hu] at hpm hpe
  have hnd : M.Nodup := hs.imp fun {a b} hab e => by subst e; rw [ltL_irrefl] at hab; cases hab
  refine ⟨delL M p, hH.perm hpe, hm, delL_sorted p hs, fun x hx => h30 x (hpm.mem_iff.2 (List.mem_cons_of_mem _ hx)), ?_, ?_⟩
  · have := hpm.length_eq
    simp only [List.length_cons] at this; omega
  · rw [Bool.false_and, decide_eq_false]
    intro e
    exact (List.nodup_cons.1 (hpm.nodup_iff.1 hnd)).1 e
theorem wpList_copy_eq {P : Program} {w : World} {ops : Array Oper} {rest : List Oper} {o : Oper} {a : Act} {Q : Exit → Act → World → Prop} (hg : o.guard = none) (d s : Operand) (dT sT : TypeId) (hop : o.op = .call { callee := .builtin .copy, args := #[d, s], argTypes := #[dT, sT] }) {v1 : Value} {w1 : World}
    (hrun : (Builtin.copy_ #[dT, sT] o.type #[a.eval d, a.eval s]).run P w = .ok v1 w1) (hK : wpList P ops Q rest (a.put o.dst v1) w1) : wpList P ops Q (o :: rest) a w := by
  refine wpList_plain hg fun K hK' => ?_
  unfold Oper.wp execOp
  simp only [hop, resolve, invoke, builtin, Sem.run_bind, Sem.run_pure, Result.andThen_ok, List.map_toArray, List.map_cons, List.map_nil, hrun]
  exact hK' _ _ hK
section
variable {P : Program} {ops : Array Oper} {o : Oper} {a : Act} {w : World} {K : Act → World → Prop} {Q : Exit → Act → World → Prop} {E : Prop}
/-- copy, append, as one step of a region that draws. -/
theorem step_copy_eq (hgd : o.guard = none) (d s : Operand) (dT sT : TypeId) (ho : o.op = .call { callee := .builtin .copy, args := #[d, s], argTypes := #[dT, sT] }) {v1 : Value} {w1 : World}
    (hrun : (Builtin.copy_ #[dT, sT] o.type #[a.eval d, a.eval s]).run P w = .ok v1 w1) (h : K (a.put o.dst v1) w1) : if Region.wanted o (yielded ops a.tmps) = true then Oper.wp P o a w K Q else E := by
  have hw : Region.wanted o (yielded ops a.tmps) = true := by simp [Region.wanted, hgd]
  rw [if_pos hw]
  unfold Oper.wp execOp
  simp only [ho, resolve, invoke, builtin, Sem.run_bind, Sem.run_pure, Result.andThen_ok, List.map_toArray, List.map_cons, List.map_nil, hrun]
  exact h
theorem sel_dst (n : Nat) (hn : o.dst = some n) (h : if Region.wanted o (yielded ops a.tmps) = true then Oper.wp P o a w K Q else E) : if Region.wanted o (yielded ops a.tmps) = true then Oper.wp P o a w K Q else E := h
theorem step_append_eq (hgd : o.guard = none) (d s : Operand) (T : TypeId) (ho : o.op = .call { callee := .builtin .append, args := #[d, s], argTypes := #[T, T] }) {ty : TypeId} {vd vs v1 : Value} {w1 : World}
    (hrun : (Builtin.append_ #[T, T] ty #[vd, vs]).run P w = .ok v1 w1) (hty : o.type = ty) (hd : a.eval d = vd) (hs : a.eval s = vs) (h : K (a.put o.dst v1) w1) : if Region.wanted o (yielded ops a.tmps) = true then Oper.wp P o a w K Q else E := by
  have hw : Region.wanted o (yielded ops a.tmps) = true := by simp [Region.wanted, hgd]
  rw [if_pos hw]
  subst hty hd hs
  unfold Oper.wp execOp
  simp only [ho, resolve, invoke, builtin, Sem.run_bind, Sem.run_pure, Result.andThen_ok, List.map_toArray, List.map_cons, List.map_nil, hrun]
  exact h
end
end Go.Proofs.Yteaadpgammbdgaa.PA
