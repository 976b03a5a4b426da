/- append of a word that a slice holds, behind a row of a block of its own; a row of a block of its own is a word that a slice holds. -/
import Derived.Test.YteaadpgammbdgaaWordRow
import Derived.Test.YteaadpgammbdgaaTrieKnown
namespace Go.Proofs.Yteaadpgammbdgaa.PA
open Go.RowKit Go.Shelf Go.Proofs.YteaadpgammbdgaaW.PrintWords Go.Proofs.YteaadpgammbdgaaW.PrintLast Go.Proofs.YteaadpgammbdgaaW.PrintMore
set_option linter.unusedVariables false
set_option linter.unusedSimpArgs false

theorem run_append_c {W : World} {base : Nat} {v : Value} {xs ys : List Int} {A : Option Addr} {c : Nat} (HO : W.ownsRow base 21 1 v xs.length (nums .i32 xs)) (HR : Kd.C (Kd.int .i32) W A ys.length ys) (hA : A = none → ys = []) (hb : base ≤ W.heap.size) (hl : xs.length + ys.length ≤ 1000000) :
    ∃ v1 w1, (Builtin.append_ #[22, 22] 22 #[v, .slice A ys.length c]).run Try.prog W = .ok v1 w1 ∧ w1.ownsRow base 21 1 v1 (xs ++ ys).length (nums .i32 (xs ++ ys)) ∧ W.grownBy w1 v.ownBlock ∧ (v1.ownBlock = v.ownBlock ∨ v1.ownBlock = some W.heap.size) := by
  have hinfo : (Try.prog.info? 21).map (fun i => (i.zero, i.size, i.bytes)) = some (some (.int .i32 0), 1, 4) := by kernel_rfl
  obtain ⟨i0, hi, hzz⟩ := Option.map_eq_some_iff.1 hinfo
  simp only [Prod.mk.injEq] at hzz
  obtain ⟨hz0, hz1, hz2⟩ := hzz
  have ht := Try.underlying22
  cases A with
  | none =>
    obtain rfl := hA rfl
    refine ⟨v, W, ?_, by simpa using HO, World.grownBy.refl W _, .inl rfl⟩
    rcases HO.2 with ⟨rfl, hn⟩ | ⟨g, cap, cur, rfl, _, _, hnc, _⟩
    · simp [Builtin.append_, run_underlying ht, sizeOf, typeInfo, hi, Builtin.lenOf, Builtin.firstCells]
    · simp [Builtin.append_, run_underlying ht, sizeOf, typeInfo, hi, Builtin.lenOf, Builtin.firstCells, hnc, storeCells]
  | some ad =>
    have hcells : ∀ j u, (nums .i32 ys)[j]? = some u → W.cell? (ad.add j) = some u := fun j u hu => by
      have hj : j < ys.length := by
        rcases Nat.lt_or_ge j ys.length with h | h
        · exact h
        · simp [nums, List.getElem?_eq_none h] at hu
      obtain ⟨ad', h', hc⟩ := Kd.at_int HR (j : Int) (by omega) (by omega)
      cases h'
      rw [Int.toNat_natCast] at hc
      simp [nums, List.getElem?_eq_getElem hj] at hu
      rw [hc, ← hu]
      simp [rd, hj]
    obtain ⟨v1, w1, hr, h2, h3, _, h5⟩ := run_append_own_at (P := Try.prog) (w := W) base 22 22 21 i0 (.int .i32 0) 1 4 ht hi hz0 hz1 hz2 rfl (by omega) v xs.length (nums .i32 xs) HO ad ys.length c (nums .i32 ys) (by simp [nums]) hcells
      (by intro u hu; simp only [nums, List.mem_map] at hu; obtain ⟨q, _, rfl⟩ := hu; rfl) (by simp only [maxLen]; omega) (by omega) hb
    exact ⟨v1, w1, hr, by simpa [nums] using h2, h3, h5⟩
/-- At the operation, out of a fence. -/
theorem wpList_append_eq {P : Program} {w : World} {ops : Array Oper} {rest : List Oper} {o : Oper} {a : Act} {Q : Exit → Act → World → Prop} (hg : o.guard = none) (s x : Operand) (t : TypeId) (hop : o.op = Op.call { callee := Callee.builtin Builtin.append, args := #[s, x], argTypes := #[t, t] }) {v1 : Value} {w1 : World}
    (hrun : (Builtin.append_ #[t, t] o.type #[a.eval s, a.eval x]).run P w = .ok v1 w1) (hK : wpList P ops Q rest (a.put o.dst v1) w1) : wpList P ops Q (o :: rest) a w := by
  refine wpList_plain hg fun K hK' => ?_
  unfold Oper.wp execOp
  simp only [hop, resolve, invoke, builtin, Sem.run_bind, Sem.run_pure, Result.andThen_ok, List.map_toArray, List.map_cons, List.map_nil, hrun]
  exact hK' _ _ hK
theorem WordAt.own {B base : Nat} {W : World} {v : Value} {zs : List Int} (h : W.ownsRow base 21 1 v zs.length (nums .i32 zs)) (ok : ∀ z ∈ zs, (Lit.int .i32 z).wf = true) (hl : zs.length < 4611686018427387904) : ∃ A c, v = .slice A zs.length c ∧ WordAt B W A zs := by
  have hr : WordRow W v zs := row_base h
  obtain ⟨A, c, rfl, hC, _⟩ := hr.reads
  refine ⟨A, c, rfl, hC, fun a ha hn => ?_, ok, hl⟩
  subst ha
  obtain ⟨cs, hc⟩ := row_block hr a.block rfl
  exact ⟨_, hc, .inr rfl⟩
/-- A word that came in. -/
theorem WordAt.arg {w : World} {A : Option Addr} {zs : List Int} (hr : Kd.C (Kd.int .i32) w A zs.length zs) (hz : ∀ z ∈ zs, (Lit.int .i32 z).wf = true) (hl : zs.length ≤ 1000) : WordAt w.heap.size w A zs :=
  ⟨hr, word_calm hr, hz, by omega⟩
/-- append(append(nil, a...), b...). -/
theorem append_two {W : World} {xs ys : List Int} {A A' : Option Addr} {c c' : Nat} (h1 : Kd.C (Kd.int .i32) W A xs.length xs) (h2 : Kd.C (Kd.int .i32) W A' ys.length ys) (hA : A = none → xs = []) (hA' : A' = none → ys = []) (hl : xs.length + ys.length ≤ 1000) :
    ∃ v1 w1 v2 w2, (Builtin.append_ #[22, 22] 22 #[.slice none 0 0, .slice A xs.length c]).run Try.prog W = .ok v1 w1 ∧ (Builtin.append_ #[22, 22] 22 #[v1, .slice A' ys.length c']).run Try.prog w1 = .ok v2 w2 ∧
      w2.ownsRow 0 21 1 v2 (xs ++ ys).length (nums .i32 (xs ++ ys)) ∧ Below W.heap.size W w2 := by
  obtain ⟨v1, w1, hr1, ho1, hg1, hb1⟩ := run_append_c (base := W.heap.size) (xs := []) (c := c) (World.ownsRow_nil W _ _ _) h1 hA (Nat.le_refl _) (by simp; omega)
  have hB1 : Below W.heap.size W w1 := (Below.refl _ W).grown hg1 (Nat.le_refl _) (fun k hk => by simp [Value.ownBlock] at hk)
  rw [List.nil_append] at ho1
  obtain ⟨v2, w2, hr2, ho2, hg2, hb2⟩ := run_append_c (c := c') ho1 (Kd.C_below h2 hB1) hA' hB1.size (by omega)
  refine ⟨v1, w1, v2, w2, hr1, hr2, row_base ho2, hB1.grown hg2 hB1.size fun k hk => ?_⟩
  rcases hb1 with q | q
  · rw [q] at hk; simp [Value.ownBlock] at hk
  · rw [q] at hk; cases hk; exact Nat.le_refl _
end Go.Proofs.Yteaadpgammbdgaa.PA
