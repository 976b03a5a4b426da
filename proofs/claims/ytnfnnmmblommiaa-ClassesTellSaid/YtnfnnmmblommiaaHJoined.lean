/- Spans in the order of their beginnings, joined: the canonical list. uniset.joined: by hand: the iterator's contract. -/
import Derived.Test.YtnfnnmmblommiaaMath
import Derived.Test.YtnfnnmmblommiaaHSorted
import Derived.Test.YtnfnnmmblommiaaIterMem
import Derived.Sort.BigQuietIn
import Derived.BigRegionIn
namespace Go.Proofs.Ytnfnnmmblommiaa.PA
open Go.RowKit
set_option linter.unusedVariables false
set_option linter.unusedSimpArgs false

/-- What is told of a span and those behind it. -/
def eat (s : Sp) : List Sp → List Sp
  | [] => [s]
  | y :: ys => if y.f0 ≤ s.f1 then eat ⟨s.f0, max s.f1 y.f1⟩ ys else s :: eat y ys
def joinL : List Sp → List Sp
  | [] => []
  | s :: r => eat s r
def toRg (x : Sp) : Rg := ⟨x.f0, x.f1 - 1⟩
theorem eat_length : ∀ (r : List Sp) (s : Sp), (eat s r).length ≤ r.length + 1
  | [], s => by simp [eat]
  | y :: ys, s => by
    unfold eat
    split
    · have := eat_length ys ⟨s.f0, max s.f1 y.f1⟩; simp; omega
    · have := eat_length ys y; simp; omega
theorem joinL_length (l : List Sp) : (joinL l).length ≤ l.length := by
  cases l with
  | nil => simp [joinL]
  | cons s r => exact eat_length r s
def okSp (x : Sp) : Prop := 0 ≤ x.f0 ∧ x.f0 < x.f1 ∧ x.f1 ≤ 1114112
theorem toRg_good {x : Sp} (h : okSp x) : good (toRg x) = true := by
  unfold okSp at h
  exact good_iff.2 ⟨h.1, by simp [toRg]; omega, by simp [toRg]; omega⟩
theorem toRg_in {s : Sp} (h : okSp s) (q : Int) : (good (toRg s) && decide ((toRg s).f0 ≤ q) && decide (q ≤ (toRg s).f1)) = decide (s.f0 ≤ q ∧ q < s.f1) := by
  rw [toRg_good h, Bool.true_and]
  show (decide (s.f0 ≤ q) && decide (q ≤ s.f1 - 1)) = decide (s.f0 ≤ q ∧ q < s.f1)
  have e : decide (q ≤ s.f1 - 1) = decide (q < s.f1) := by
    by_cases k : q < s.f1
    · rw [decide_eq_true k, decide_eq_true (show q ≤ s.f1 - 1 by omega)]
    · rw [decide_eq_false k, decide_eq_false (show ¬ q ≤ s.f1 - 1 by omega)]
  rw [e, Bool.decide_and]
theorem eat_ok : ∀ (r : List Sp) (s : Sp), okSp s → (∀ y ∈ r, s.f0 ≤ y.f0 ∧ okSp y) → r.Pairwise (fun x y => x.f0 ≤ y.f0) → ∀ x ∈ eat s r, okSp x
  | [], s, hs, _, _, x, hx => by simp [eat] at hx; exact hx ▸ hs
  | y :: ys, s, hs, hr, hp, x, hx => by
    have hy := hr y (List.mem_cons_self ..)
    unfold eat at hx
    split at hx
    · refine eat_ok ys ⟨s.f0, max s.f1 y.f1⟩ ?_ (fun z hz => ⟨(hr z (List.mem_cons_of_mem _ hz)).1, (hr z (List.mem_cons_of_mem _ hz)).2⟩) (List.Pairwise.of_cons hp) x hx
      unfold okSp at *; dsimp only; omega
    · rcases List.mem_cons.1 hx with rfl | hx
      · exact hs
      · exact eat_ok ys y hy.2 (fun z hz => ⟨List.rel_of_pairwise_cons hp hz, (hr z (List.mem_cons_of_mem _ hz)).2⟩) (List.Pairwise.of_cons hp) x hx
theorem eat_isF : ∀ (r : List Sp) (s : Sp) (b : Int), b < s.f0 → okSp s → (∀ y ∈ r, s.f0 ≤ y.f0 ∧ okSp y) → r.Pairwise (fun x y => x.f0 ≤ y.f0) → IsF b ((eat s r).map toRg)
  | [], s, b, hb, hs, _, _ => by
    unfold okSp at hs
    exact ⟨hb, by simp [toRg]; omega, by simp [toRg]; omega, trivial⟩
  | y :: ys, s, b, hb, hs, hr, hp => by
    have hy := hr y (List.mem_cons_self ..)
    unfold eat
    split
    · refine eat_isF ys ⟨s.f0, max s.f1 y.f1⟩ b hb ?_ (fun z hz => ⟨(hr z (List.mem_cons_of_mem _ hz)).1, (hr z (List.mem_cons_of_mem _ hz)).2⟩) (List.Pairwise.of_cons hp)
      unfold okSp at *; dsimp only; omega
    · rename_i hgt
      unfold okSp at hs
      refine ⟨hb, by simp [toRg]; omega, by simp [toRg]; omega, ?_⟩
      exact eat_isF ys y _ (by simp [toRg]; omega) hy.2 (fun z hz => ⟨List.rel_of_pairwise_cons hp hz, (hr z (List.mem_cons_of_mem _ hz)).2⟩) (List.Pairwise.of_cons hp)
theorem eat_has : ∀ (r : List Sp) (s : Sp), okSp s → (∀ y ∈ r, s.f0 ≤ y.f0 ∧ okSp y) → r.Pairwise (fun x y => x.f0 ≤ y.f0) → ∀ q, hasL ((eat s r).map toRg) q = true ↔ (s.f0 ≤ q ∧ q < s.f1) ∨ ∃ y ∈ r, y.f0 ≤ q ∧ q < y.f1
  | [], s, hs, _, _, q => by
    simp only [eat, List.map_cons, List.map_nil, hasL_cons, hasL_nil, Bool.or_false, toRg_in hs]
    simp
  | y :: ys, s, hs, hr, hp, q => by
    have hy := hr y (List.mem_cons_self ..)
    unfold eat
    split
    · rename_i hle
      rw [eat_has ys ⟨s.f0, max s.f1 y.f1⟩ (by unfold okSp at *; dsimp only; omega) (fun z hz => ⟨(hr z (List.mem_cons_of_mem _ hz)).1, (hr z (List.mem_cons_of_mem _ hz)).2⟩) (List.Pairwise.of_cons hp) q]
      simp only [List.mem_cons, exists_eq_or_imp]
      constructor
      · rintro (h | h)
        · by_cases k : q < s.f1
          · exact .inl ⟨h.1, k⟩
          · exact .inr (.inl ⟨by omega, by omega⟩)
        · exact .inr (.inr h)
      · rintro (h | h | h)
        · exact .inl ⟨h.1, by omega⟩
        · exact .inl ⟨by omega, by omega⟩
        · exact .inr h
    · rw [List.map_cons, hasL_cons, toRg_in hs]
      have ih := eat_has ys y hy.2 (fun z hz => ⟨List.rel_of_pairwise_cons hp hz, (hr z (List.mem_cons_of_mem _ hz)).2⟩) (List.Pairwise.of_cons hp) q
      simp only [List.mem_cons, exists_eq_or_imp, Bool.or_eq_true, ih, decide_eq_true_eq]
theorem spans_ok {l : List Rg} {x : Sp} (h : x ∈ spans l) : okSp x := by
  unfold spans at h
  obtain ⟨y, hy, rfl⟩ := List.mem_map.1 h
  have := good_iff.1 (List.mem_filter.1 hy).2
  unfold okSp
  simp; omega
theorem spans_has (l : List Rg) (q : Int) : (∃ y ∈ spans l, y.f0 ≤ q ∧ q < y.f1) ↔ hasL l q = true := by
  rw [hasL_iff]
  constructor
  · rintro ⟨y, hy, h⟩
    obtain ⟨z, hz, rfl⟩ := List.mem_map.1 hy
    simp at h
    exact ⟨z, (List.mem_filter.1 hz).1, (List.mem_filter.1 hz).2, h.1, by omega⟩
  · rintro ⟨z, hz, hg, h⟩
    exact ⟨⟨z.f0, z.f1 + 1⟩, List.mem_map.2 ⟨z, List.mem_filter.2 ⟨hz, hg⟩, rfl⟩, h.1, by simp; omega⟩
theorem join_norm (l : List Rg) (d : List Sp) (hd : d.Perm (spans l)) (hs : d.Pairwise (fun x y => x.f0 ≤ y.f0)) : (joinL d).map toRg = norm l := by
  symm
  have hok : ∀ x ∈ d, okSp x := fun x hx => spans_ok (hd.mem_iff.1 hx)
  have hm : ∀ q, (∃ y ∈ d, y.f0 ≤ q ∧ q < y.f1) ↔ hasL l q = true := fun q => by
    rw [← spans_has]
    constructor
    · rintro ⟨y, hy, h⟩; exact ⟨y, hd.mem_iff.1 hy, h⟩
    · rintro ⟨y, hy, h⟩; exact ⟨y, hd.mem_iff.2 hy, h⟩
  cases d with
  | nil =>
    refine norm_of trivial fun r => ?_
    rw [show hasL ((joinL []).map toRg) r = false from rfl]
    cases h : hasL l r
    · rfl
    · have := (hm r).2 h; simp at this
  | cons s r =>
    have h0 := hok s (List.mem_cons_self ..)
    have h1 : ∀ y ∈ r, s.f0 ≤ y.f0 ∧ okSp y := fun y hy => ⟨List.rel_of_pairwise_cons hs hy, hok y (List.mem_cons_of_mem _ hy)⟩
    have h2 := List.Pairwise.of_cons hs
    refine norm_of (eat_isF r s (-1) (by have := h0.1; omega) h0 h1 h2) fun q => ?_
    rw [Bool.eq_iff_iff, ← hm q, joinL, eat_has r s h0 h1 h2 q]
    simp
end Go.Proofs.Ytnfnnmmblommiaa.PA
namespace Go.Proofs.Ytnfnnmmblommiaa.PA
open Go.RowKit Go.Shelf Go.Proofs.YtnfnnmmblommiaaW.PrintWords Go.Proofs.YtnfnnmmblommiaaW.PrintLast Go.Proofs.YtnfnnmmblommiaaW.PrintMore
attribute [local go_sem] Oper.semAt_some max2_int min2_int
set_option linter.unusedVariables false
set_option linter.unusedSimpArgs false

def SrcSp (W : World) (Bx : Nat) (A : Option Addr) (c : Nat) (xs : List Sp) : Prop := W.cell? ⟨Bx, 0, none⟩ = some (.slice A xs.length c) ∧ Kd.C k99 W A xs.length xs
def ofSp (Bx : Nat) (A : Option Addr) (b : Nat) : Prop := b = Bx ∨ ∃ a, A = some a ∧ b = a.block
theorem SrcSp.kept {W W' : World} {Bx : Nat} {A : Option Addr} {c : Nat} {xs : List Sp} (h : SrcSp W Bx A c xs) (hk : KeepsOf (ofSp Bx A) W W') : SrcSp W' Bx A c xs :=
  ⟨hk.cell (.inl rfl) h.1, C_kept h.2 (fun _ _ h => h) fun a ha => hk.same _ (.inr ⟨a, ha, rfl⟩)⟩
theorem SrcSp.below {W W' : World} {Bx : Nat} {A : Option Addr} {c : Nat} {xs : List Sp} (h : SrcSp W Bx A c xs) (hk : Below W.heap.size W W') : SrcSp W' Bx A c xs := ⟨cell_b hk h.1, Kd.C_below h.2 hk⟩
theorem grown_none {W W' : World} (h : Below W.heap.size W W') : W.grownBy W' none := ⟨h.os, h.tape, h.output, h.size, fun k hk _ => h.block k hk⟩

set_option maxRecDepth 100000 in
set_option maxHeartbeats 4000000 in
theorem joined1_in (n : Nat) (hn : 1 ≤ n) (l Bx : Nat) (A : Option Addr) (c : Nat) (xs : List Sp) (J Jx : List Sp → World → Prop) (hlen : xs.length ≤ 1099511627776)
    (hJ : ∀ pre W W', J pre W → W.grownBy W' none → J pre W')
    (hY : ∀ pre x W, J pre W → pre.length < xs.length → YieldAt Fence.wide (n - 1) Try.prog l #[.agg #[.int .i32 x.f0, .int .i32 x.f1]] W fun e W' =>
      (e = .returned (.bool true) ∧ J (pre ++ [x]) W' ∧ KeepsOf (ofSp Bx A) W W') ∨ (e = .returned (.bool false) ∧ Jx (pre ++ [x]) W'))
    (W : World) (hS : SrcSp W Bx A c xs) (h0 : J [] W) :
    CallsIn Fence.wide n Try.prog 68 #[.func (.yield l) #[] #[], .pointer (some ⟨Bx, 0, none⟩)] W fun e W' => (∃ v, e = .returned v) ∧
      ((∃ ys, ys = joinL xs ∧ J ys W') ∨ (∃ pre, pre <+: joinL xs ∧ Jx pre W')) := by
  have hu2 := Try.underlying99
  refine callsIn_of_wp Try.func68 rfl trivial ?_ rfl
  simp only [Try.ntmps68, List.size_toArray, List.length_cons, List.length_nil, Nat.reduceAdd, Nat.reduceSub, Array.replicate_succ, Array.replicate_zero, List.push_toArray, List.append_toArray, List.nil_append, List.cons_append]
  gi_wp2
  gi_loopw [3] (fun i wr => ∃ (k : Nat) (pre : List Sp), k ≤ xs.length ∧ i = .int .i64 k ∧ Hid (joinL xs = pre ++ joinL (xs.drop k)) ∧ pre.length ≤ k ∧ Hid (J pre wr) ∧ Hid (SrcSp wr Bx A c xs))
    (fun i wr => xs.length - (intOf i).toNat)
  case atStart => exact ⟨0, [], Nat.zero_le _, rfl, rfl, Nat.le_refl _, h0, hS⟩
  case round =>
    obtain ⟨k, pre, hk, rfl, hE, hp, hJs, hSs⟩ := hrel
    have hcB := hSs.out.1
    by_cases hlt : k < xs.length
    · obtain ⟨ad, rfl, hx0, hx1⟩ := at_T99 hSs.out.2 (k : Int) (by omega) (by omega)
      obtain ⟨x, hx⟩ : ∃ x, rd_T99 xs (k : Int) = x := ⟨_, rfl⟩
      rw [hx] at hx0 hx1
      have HX := Lib.hid hx
      clear hx
      simp only [Int.toNat_natCast] at hx0 hx1
      gi_wp2
      obtain ⟨w4, hw4⟩ : ∃ w4, wr.alloc (.cells #[.int .i32 x.f0, .int .i32 x.f1] 99) = w4 := ⟨_, rfl⟩
      have hb4 : Below wr.heap.size wr w4 := by rw [← hw4]; exact (Below.refl _ wr).alloc (Nat.le_refl _) _
      have hs4 : w4.heap[wr.heap.size]? = some (.cells #[.int .i32 x.f0, .int .i32 x.f1] 99) := by rw [← hw4]; exact heap_alloc_new wr _
      have HE2 : Hid (joinL xs = pre ++ eat x (xs.drop (k + 1))) := by
        have := hE.out
        rw [List.drop_eq_getElem_cons hlt] at this
        have e : xs[k] = x := by have := HX.out; unfold rd_T99 at this; simpa [hlt] using this
        rw [e] at this
        exact this
      rw [hw4]
      obtain ⟨wo, rfl⟩ : ∃ wo : World, wo = wr := ⟨_, rfl⟩
      have HB4 := Lib.hid hb4
      have HS4 := Lib.hid hs4
      clear hb4 hs4 hw4 hx0 hx1 HX hE
      gi_loopw [3] (fun i w5 => ∃ (m : Nat) (s : Sp), m ≤ xs.length ∧ k < m ∧ i = .int .i64 m ∧ Hid (joinL xs = pre ++ eat s (xs.drop m)) ∧ Hid (Below wo.heap.size wo w5) ∧ Hid (w5.heap[wo.heap.size]? = some (.cells #[.int .i32 s.f0, .int .i32 s.f1] 99)))
        (fun i w5 => xs.length - (intOf i).toNat)
      case atStart => exact ⟨k + 1, x, by omega, by omega, by go_num, HE2, HB4, HS4⟩
      case round =>
        clear HB4 HS4 HE2
        obtain ⟨m, s, hm, hkm, rfl, hE, HB, HS⟩ := hrel
        have hSr := hSs.out.below HB.out
        have c0 := hSr.1
        have hb0 : wr.cell? ⟨wo.heap.size, 0, none⟩ = some (.int .i32 s.f0) := by unfold World.cell?; simp only [HS.out]; rfl
        have hb1 : wr.cell? ⟨wo.heap.size, 1, none⟩ = some (.int .i32 s.f1) := by unfold World.cell?; simp only [HS.out]; rfl
        have hfz : wr.frozen? ⟨wo.heap.size, 1, none⟩ = false := by unfold World.frozen?; simp only [HS.out]; rfl
        by_cases hlt2 : m < xs.length
        · obtain ⟨ad', e', hy0, hy1⟩ := at_T99 hSr.2 (m : Int) (by omega) (by omega)
          cases e'
          obtain ⟨y, hy⟩ : ∃ y, rd_T99 xs (m : Int) = y := ⟨_, rfl⟩
          rw [hy] at hy0 hy1
          simp only [Int.toNat_natCast] at hy0 hy1
          have hdrop : xs.drop m = y :: xs.drop (m + 1) := by
            rw [List.drop_eq_getElem_cons hlt2]
            congr 1
            have := hy; unfold rd_T99 at this; simpa [hlt2] using this
          have HD := Lib.hid hdrop
          have HSr := Lib.hid hSr
          clear hdrop hy hSr hcB
          have d1 : decide ((m : Int) < (xs.length : Int)) = true := decide_eq_true (by omega)
          by_cases hle : y.f0 ≤ s.f1
          · have d2 : decide (y.f0 ≤ s.f1) = true := decide_eq_true hle
            gi_wp2
            gi_quiet (fail)
            gi_wp2
            gi_region
            all_goals gi_wp2
            go_roundw
            case rel =>
              have e : (if s.f1 < y.f1 then y.f1 else s.f1) = max s.f1 y.f1 := by split <;> omega
              refine ⟨m + 1, ⟨s.f0, max s.f1 y.f1⟩, by omega, by omega, by go_num, ?_, ?_, ?_⟩
              · have := hE.out
                rw [HD.out] at this
                unfold eat at this
                rw [if_pos hle] at this
                exact this
              · exact (pw_below_drewN HB.out _).setCell (p := ⟨wo.heap.size, 1, none⟩) (Nat.le_refl _) _
              · rw [e]
                exact heap_set (W := wr.drewN (nq + 1)) HS.out 1 _
            case measure => simp [intOf]; omega
          · have d2 : decide (y.f0 ≤ s.f1) = false := decide_eq_false hle
            have HE3 : Hid (joinL xs = pre ++ [s] ++ joinL (xs.drop m)) := by
              have := hE.out
              rw [HD.out] at this ⊢
              unfold eat at this
              rw [if_neg hle] at this
              show joinL xs = _
              rw [this]; simp [joinL]
            gi_wp2
            gi_quiet (fail)
            have HBq := Lib.hid (pw_below_drewN HB.out nq)
            have HSq := Lib.hid (SrcSp.below hSs.out HBq.out)
            obtain ⟨fn, tmps, assign, body, hy, hR⟩ := hY pre s (wr.drewN nq) (hJ _ _ _ hJs.out (grown_none HBq.out)) (by omega)
            gi_wp2
            refine hR.mono ?_
            rintro e W3 (⟨rfl, hJ3, hk3⟩ | ⟨rfl, hJx3⟩)
            · have HJ3 := Lib.hid hJ3
              have HS3 := Lib.hid (HSq.out.kept hk3)
              clear hJ3 hk3
              gi_wp2
              go_roundw
              case rel => exact ⟨m, pre ++ [s], hm, rfl, HE3, by simp; omega, HJ3, HS3⟩
              case measure => simp [intOf]; omega
            · have HJ3 := Lib.hid hJx3
              clear hJx3
              gi_wp2
              refine bodyPost_ret (results_none rfl _ _ _) rfl ?_
              exact ⟨⟨_, rfl⟩, .inr ⟨pre ++ [s], ⟨joinL (xs.drop m), HE3.out.symm⟩, HJ3.out⟩⟩
        · obtain rfl : m = xs.length := by omega
          have d1 : decide ((xs.length : Int) < (xs.length : Int)) = false := decide_eq_false (by omega)
          have HE3 : Hid (joinL xs = pre ++ [s] ++ joinL (xs.drop xs.length)) := by
            have := hE.out
            rw [List.drop_length] at this ⊢
            show joinL xs = _
            rw [this]; simp [joinL, eat]
          gi_wp2
          gi_quiet (fail)
          have HBq := Lib.hid (pw_below_drewN HB.out nq)
          have HSq := Lib.hid (SrcSp.below hSs.out HBq.out)
          obtain ⟨fn, tmps, assign, body, hy, hR⟩ := hY pre s (wr.drewN nq) (hJ _ _ _ hJs.out (grown_none HBq.out)) (by omega)
          gi_wp2
          refine hR.mono ?_
          rintro e W3 (⟨rfl, hJ3, hk3⟩ | ⟨rfl, hJx3⟩)
          · have HJ3 := Lib.hid hJ3
            have HS3 := Lib.hid (HSq.out.kept hk3)
            clear hJ3 hk3
            gi_wp2
            go_roundw
            case rel => exact ⟨xs.length, pre ++ [s], Nat.le_refl _, rfl, HE3, by simp; omega, HJ3, HS3⟩
            case measure => simp [intOf]; omega
          · have HJ3 := Lib.hid hJx3
            clear hJx3
            gi_wp2
            refine bodyPost_ret (results_none rfl _ _ _) rfl ?_
            exact ⟨⟨_, rfl⟩, .inr ⟨pre ++ [s], ⟨joinL (xs.drop xs.length), HE3.out.symm⟩, HJ3.out⟩⟩
    · obtain rfl : k = xs.length := by omega
      gi_wp2
      go_end0
      have := hE.out
      rw [List.drop_length, joinL, List.append_nil] at this
      exact ⟨⟨_, rfl⟩, .inl ⟨pre, this.symm, hJs.out⟩⟩

/-- uniset.joined's value, by its contract. -/
theorem joined_stops (n : Nat) (hn : 1 ≤ n) (Bx : Nat) (A : Option Addr) (c : Nat) (xs : List Sp) (hlen : xs.length ≤ 1099511627776) (w : World) (hS : SrcSp w Bx A c xs) :
    SeqStopsK Fence.wide n Try.prog 68 #[.pointer (some ⟨Bx, 0, none⟩)] (fun x : Sp => #[Value.agg #[.int .i32 x.f0, .int .i32 x.f1]]) (KeepsOf (ofSp Bx A)) (fun ys => ys = joinL xs) (fun pre => pre <+: joinL xs) xs.length w := fun l J Jx W hW hJ _ hY h0 =>
  joined1_in n hn l Bx A c xs J Jx hlen (fun pre W1 W2 h hg => hJ pre W1 W2 none h hg (fun r e => by cases e)) hY W (hS.below hW) h0
end Go.Proofs.Ytnfnnmmblommiaa.PA
