/- ClassesMore in plain lists: one set more; cut by the classes themselves. ClassesMore: the walk by hand. -/
import Derived.Test.YtnfnnmmblommiaaCPart
namespace Go.Proofs.Ytnfnnmmblommiaa.PA
open Go.RowKit Go.Shelf Go.Proofs.YtnfnnmmblommiaaW.PrintWords Go.Proofs.YtnfnnmmblommiaaW.PrintLast Go.Proofs.YtnfnnmmblommiaaW.PrintMore
set_option linter.unusedVariables false
set_option linter.unusedSimpArgs false

theorem nodup_len : ∀ {a b : List Int}, a.Nodup → (∀ x ∈ a, x ∈ b) → a.length ≤ b.length
  | [], b, _, _ => Nat.zero_le _
  | x :: xs, b, h, hs => by
    obtain ⟨h1, h2⟩ := List.nodup_cons.1 h
    have hx : x ∈ b := hs x List.mem_cons_self
    have := nodup_len (a := xs) (b := b.erase x) h2 (fun y hy => by
      have hne : y ≠ x := fun e => h1 (e ▸ hy)
      exact (List.mem_erase_of_ne hne).2 (hs y (List.mem_cons_of_mem _ hy)))
    have hl := List.length_erase_of_mem hx
    have hp : 0 < b.length := List.length_pos_of_mem hx
    simp only [List.length_cons]; omega
/-- Two cuts with the same classes number them alike. -/
theorem same_num {S T : List (List Rg)} {ps qs : List Pc} {ms ns : List Int} (F : Facts S ps ms) (G : Facts T qs ns)
    (heq : ∀ r s, 0 ≤ r → r ≤ 1114111 → 0 ≤ s → s ≤ 1114111 → (maskI S r = maskI S s ↔ maskI T r = maskI T s)) :
    ∀ k, k < ms.length → ∀ r, 0 ≤ r → r ≤ 1114111 → (idxL ms (maskI S r) = k ↔ idxL ns (maskI T r) = k) := by
  intro k
  induction k using Nat.strongRecOn with
  | _ k ih =>
    intro hk
    obtain ⟨l, _, l0, l1, hl, hmin⟩ := least_at F hk
    have hlk : idxL ms (maskI S l) = k := (idx_at F hk l0 l1).2 hl
    have hln : idxL ns (maskI T l) < ns.length := idxL_lt.2 ((G.mem _).2 ⟨l, l0, l1, rfl⟩)
    have key : idxL ns (maskI T l) = k := by
      rcases Nat.lt_trichotomy (idxL ns (maskI T l)) k with h | h | h
      · have := (ih _ h (by omega) l l0 l1).2 rfl
        omega
      · exact h
      · obtain ⟨a, a0, a1, a2, a3⟩ := G.first k _ h hln
        have hak : idxL ns (maskI T a) = k := (idx_at G (by omega) a0 a1).2 a2
        have hla : a < l := by
          rcases Int.lt_or_le a l with h1 | h1
          · exact h1
          · exact absurd ((idx_at G hln l0 l1).1 rfl) (a3 l l0 h1)
        have haS : idxL ms (maskI S a) < ms.length := idxL_lt.2 ((F.mem _).2 ⟨a, a0, a1, rfl⟩)
        rcases Nat.lt_trichotomy (idxL ms (maskI S a)) k with h2 | h2 | h2
        · have := (ih _ h2 haS a a0 a1).1 rfl
          omega
        · have e : maskI S a = maskI S l := ((idx_at F hk a0 a1).1 h2).trans hl.symm
          have e2 := (heq a l a0 a1 l0 l1).1 e
          rw [e2] at hak; omega
        · obtain ⟨b, b0, b1, b2, b3⟩ := F.first k _ h2 haS
          have hlb := hmin b b0 b1 b2
          rcases Int.lt_or_le b a with h3 | h3
          · omega
          · exact absurd ((idx_at F haS a0 a1).1 rfl) (b3 a a0 h3)
    intro r r0 r1
    constructor
    · intro h
      have e : maskI S r = maskI S l := ((idx_at F hk r0 r1).1 h).trans hl.symm
      rw [(heq r l r0 r1 l0 l1).1 e]; exact key
    · intro h
      have hkn : k < ns.length := by omega
      have e : maskI T r = maskI T l := ((idx_at G hkn r0 r1).1 h).trans ((idx_at G hkn l0 l1).1 key).symm
      rw [(heq r l r0 r1 l0 l1).2 e]; exact hlk
theorem same_len {S T : List (List Rg)} {ps qs : List Pc} {ms ns : List Int} (F : Facts S ps ms) (G : Facts T qs ns)
    (heq : ∀ r s, 0 ≤ r → r ≤ 1114111 → 0 ≤ s → s ≤ 1114111 → (maskI S r = maskI S s ↔ maskI T r = maskI T s)) : ns.length = ms.length := by
  have aux : ∀ {S T : List (List Rg)} {ps qs : List Pc} {ms ns : List Int} (F : Facts S ps ms) (G : Facts T qs ns), (∀ r s, 0 ≤ r → r ≤ 1114111 → 0 ≤ s → s ≤ 1114111 → (maskI S r = maskI S s ↔ maskI T r = maskI T s)) → ms.length ≤ ns.length := by
    intro S T ps qs ms ns F G heq
    rcases Nat.eq_zero_or_pos ms.length with h | h
    · omega
    · have hk : ms.length - 1 < ms.length := by omega
      obtain ⟨l, _, l0, l1, hl, _⟩ := least_at F hk
      have h1 := (same_num F G heq _ hk l l0 l1).1 ((idx_at F hk l0 l1).2 hl)
      have h2 : idxL ns (maskI T l) < ns.length := idxL_lt.2 ((G.mem _).2 ⟨l, l0, l1, rfl⟩)
      omega
  have h1 := aux F G heq
  have h2 := aux G F (fun r s a b c d => (heq r s a b c d).symm)
  omega
/-- The first classes of a cut, as sets. -/
def ownS (ps : List Pc) (n : Nat) : List (List Rg) := (List.range n).map fun k => setC ps ((k : Nat) : Int)
theorem ownS_succ (ps : List Pc) (n : Nat) : ownS ps (n + 1) = ownS ps n ++ [setC ps (n : Int)] := by unfold ownS; rw [List.range_succ]; simp
theorem ownS_length (ps : List Pc) (n : Nat) : (ownS ps n).length = n := by simp [ownS]
theorem ownS_at (ps : List Pc) {n j : Nat} (hj : j < n) (r : Int) : hasAt (ownS ps n) j r = hasL (setC ps (j : Int)) r := by
  unfold hasAt rd_L2
  congr 1
  rw [Int.toNat_natCast]
  simp [ownS, hj]
theorem own_eq {S : List (List Rg)} {ps : List Pc} {ms : List Int} (F : Facts S ps ms) (r s : Int) (r0 : 0 ≤ r) (r1 : r ≤ 1114111) (s0 : 0 ≤ s) (s1 : s ≤ 1114111) : maskI S r = maskI S s ↔ maskI (ownS ps ms.length) r = maskI (ownS ps ms.length) s := by
  rw [mask_eq (S := ownS ps ms.length), ownS_length]
  have hr : idxL ms (maskI S r) < ms.length := idxL_lt.2 ((F.mem _).2 ⟨r, r0, r1, rfl⟩)
  constructor
  · intro h j hj
    rw [ownS_at ps hj, ownS_at ps hj, Bool.eq_iff_iff, set_has F, set_has F, h]
    constructor
    · rintro ⟨_, _, h2⟩; exact ⟨s0, s1, h2⟩
    · rintro ⟨_, _, h2⟩; exact ⟨r0, r1, h2⟩
  · intro h
    have h1 := h _ hr
    rw [ownS_at ps hr, ownS_at ps hr, Bool.eq_iff_iff, set_has F, set_has F] at h1
    have h2 := (h1.1 ⟨r0, r1, rfl⟩).2.2
    exact ((idx_at F hr r0 r1).1 rfl).trans ((idx_at F hr s0 s1).1 h2).symm
theorem own_same {S : List (List Rg)} {ps qs : List Pc} {ms ns : List Int} (F : Facts S ps ms) (G : Facts (ownS ps ms.length) qs ns) : ns.length = ms.length ∧ ∀ k, k < ms.length → norm (setC qs (k : Int)) = norm (setC ps (k : Int)) := by
  refine ⟨same_len F G (own_eq F), fun k hk => norm_eq fun r => ?_⟩
  rw [Bool.eq_iff_iff, set_has G, set_has F]
  constructor
  · rintro ⟨r0, r1, h⟩; exact ⟨r0, r1, (same_num F G (own_eq F) k hk r r0 r1).2 h⟩
  · rintro ⟨r0, r1, h⟩; exact ⟨r0, r1, (same_num F G (own_eq F) k hk r r0 r1).1 h⟩
theorem more_at {S : List (List Rg)} {s : List Rg} {j : Nat} (hj : j < S.length) (r : Int) : hasAt (S ++ [s]) j r = hasAt S j r := by
  unfold hasAt rd_L2
  congr 1
  rw [Int.toNat_natCast]
  simp [List.getElem?_append, hj]
theorem more_last {S : List (List Rg)} {s : List Rg} (r : Int) : hasAt (S ++ [s]) S.length r = hasL s r := by
  unfold hasAt rd_L2
  congr 1
  rw [Int.toNat_natCast]
  simp
theorem more_eq {S : List (List Rg)} {s : List Rg} {r t : Int} : maskI (S ++ [s]) r = maskI (S ++ [s]) t ↔ maskI S r = maskI S t ∧ hasL s r = hasL s t := by
  rw [mask_eq, mask_eq, List.length_append, List.length_singleton]
  constructor
  · intro h
    refine ⟨fun j hj => ?_, ?_⟩
    · have := h j (by omega)
      rwa [more_at hj, more_at hj] at this
    · have := h S.length (by omega)
      rwa [more_last, more_last] at this
  · rintro ⟨h1, h2⟩ j hj
    rcases Nat.lt_or_ge j S.length with h | h
    · rw [more_at h, more_at h]; exact h1 j h
    · obtain rfl : j = S.length := by omega
      rw [more_last, more_last]; exact h2
/-- A class of the cut, and the set's two answers: the classes of the cut by one set more are among these. -/
theorem more_len {S : List (List Rg)} {s : List Rg} {ps qs : List Pc} {ms ns : List Int} (F : Facts S ps ms) (G : Facts (S ++ [s]) qs ns) : ms.length ≤ ns.length ∧ ns.length ≤ 2 * ms.length := by
  have key : ∀ x : Int, ∃ y : Int, ∀ r, 0 ≤ r → r ≤ 1114111 → maskI (S ++ [s]) r = x → maskI S r = y := fun x => by
    by_cases h : ∃ r, 0 ≤ r ∧ r ≤ 1114111 ∧ maskI (S ++ [s]) r = x
    · obtain ⟨r, r0, r1, rfl⟩ := h
      exact ⟨maskI S r, fun t _ _ h => (more_eq.1 h).1⟩
    · exact ⟨0, fun r r0 r1 h2 => absurd ⟨r, r0, r1, h2⟩ h⟩
  have key2 : ∀ (y : Int) (b : Bool), ∃ x : Int, ∀ r, 0 ≤ r → r ≤ 1114111 → maskI S r = y → hasL s r = b → maskI (S ++ [s]) r = x := fun y b => by
    by_cases h : ∃ r, 0 ≤ r ∧ r ≤ 1114111 ∧ maskI S r = y ∧ hasL s r = b
    · obtain ⟨r, r0, r1, rfl, rfl⟩ := h
      exact ⟨maskI (S ++ [s]) r, fun t _ _ h1 h2 => more_eq.2 ⟨h1, h2⟩⟩
    · exact ⟨0, fun r r0 r1 h1 h2 => absurd ⟨r, r0, r1, h1, h2⟩ h⟩
  have hf : ∃ f : Int → Int, ∀ x r, 0 ≤ r → r ≤ 1114111 → maskI (S ++ [s]) r = x → maskI S r = f x := ⟨fun x => Classical.choose (key x), fun x => Classical.choose_spec (key x)⟩
  have hg : ∃ g : Int → Bool → Int, ∀ y b r, 0 ≤ r → r ≤ 1114111 → maskI S r = y → hasL s r = b → maskI (S ++ [s]) r = g y b := ⟨fun y b => Classical.choose (key2 y b), fun y b => Classical.choose_spec (key2 y b)⟩
  obtain ⟨f, hf⟩ := hf
  obtain ⟨g, hg⟩ := hg
  constructor
  · have := nodup_len (a := ms) (b := ns.map f) F.nodup (fun y hy => by
      obtain ⟨r, r0, r1, rfl⟩ := (F.mem _).1 hy
      exact List.mem_map.2 ⟨maskI (S ++ [s]) r, (G.mem _).2 ⟨r, r0, r1, rfl⟩, (hf _ r r0 r1 rfl).symm⟩)
    rwa [List.length_map] at this
  · have := nodup_len (a := ns) (b := ms.map (fun y => g y true) ++ ms.map (fun y => g y false)) G.nodup (fun x hx => by
      obtain ⟨r, r0, r1, rfl⟩ := (G.mem _).1 hx
      have hm : maskI S r ∈ ms := (F.mem _).2 ⟨r, r0, r1, rfl⟩
      rw [List.mem_append]
      cases hb : hasL s r with
      | true => exact .inl (List.mem_map.2 ⟨_, hm, (hg _ _ r r0 r1 rfl hb).symm⟩)
      | false => exact .inr (List.mem_map.2 ⟨_, hm, (hg _ _ r r0 r1 rfl hb).symm⟩))
    rw [List.length_append, List.length_map, List.length_map] at this
    omega
/-- How many pieces a cut by short sets has. -/
theorem los_short {los : List Int} {S : List (List Rg)} (h : LosOf los S) {N : Nat} (hS : ∀ l ∈ S, l.length ≤ N) : los.length ≤ 1 + S.length * (2 * N) :=
  Nat.le_trans (nodup_len (h.lt.imp fun hab => by omega) fun x hx => (h.mem x).1 hx) (ends_length S N hS)
end Go.Proofs.Ytnfnnmmblommiaa.PA
namespace Go.Proofs.Ytnfnnmmblommiaa.PA
open Go.RowKit Go.Shelf Go.Proofs.YtnfnnmmblommiaaW.PrintWords Go.Proofs.YtnfnnmmblommiaaW.PrintLast Go.Proofs.YtnfnnmmblommiaaW.PrintMore
set_option linter.unusedVariables false
set_option linter.unusedSimpArgs false

theorem infoSl2 : (Try.prog.info? 26).map (fun i => (i.zero, i.size, i.bytes)) = some (some (.slice none 0 0), 1, 24) := by kernel_rfl
theorem heapRg : Kd.Heap k41 := Kd.heap_iso _ (Kd.heap_pair (Kd.heap_int _) (Kd.heap_int _))
theorem heapSl : Kd.Heap (Kd.slice 41 k41) := Kd.heap_slice _ heapRg
theorem own_short (ps : List Pc) (n : Nat) : ∀ l ∈ ownS ps n, l.length ≤ ps.length := by
  intro l hl
  obtain ⟨k, _, rfl⟩ := List.mem_map.1 (show l ∈ (List.range n).map fun k => setC ps ((k : Nat) : Int) from hl)
  exact setC_length ps _
set_option maxRecDepth 100000 in
set_option maxHeartbeats 16000000 in
theorem more_law (A : Option Addr) (c : Nat) (sets : List (List Rg)) (A1 : Option Addr) (c1 : Nat) (s : List Rg) (w : World) (hr : Kd.C (Kd.slice 41 k41) w A sets.length sets) (hc : sets.length ≤ c) (hw0 : ∀ l ∈ sets, ∀ x ∈ l, wfRg x) (hr1 : Kd.C k41 w A1 s.length s) (hc1 : s.length ≤ c1) (hw1 : ∀ x ∈ s, wfRg x) :
    Calls Try.prog 9 #[.slice A sets.length c, .slice A1 s.length c1] w fun e w' => e = .returned (.bool true) ∧ Below w.heap.size w w' := by
  have hmx : sets.length ≤ 9223372036854775807 := hr.2.1
  have hmx1 : s.length ≤ 9223372036854775807 := hr1.2.1
  have HK := Lib.hid (known_calls w)
  have HC := Lib.hid hr
  have HC1 := Lib.hid hr1
  have HCF := Lib.hid (Kd.C_F heapSl hr)
  have HCF1 := Lib.hid (Kd.C_F heapRg hr1)
  clear hr hr1 hw0 hw1
  go_enter Try.func9, Try.ntmps9
  go_wp2_with fail
  refine HK.out.mono ?_
  rintro e w1 ⟨rfl, hb1⟩
  have HB1 := Lib.hid hb1
  have HCC := Lib.hid (Kd.C_below HC.out hb1)
  have HFE := Lib.hid (few_calls A c sets w1 HCC.out hc hmx)
  clear hb1 HK
  by_cases hf : fewB sets = true
  · rw [hf] at HFE
    obtain ⟨hs20, hs70⟩ := fewB_true hf
    have HS20 := Lib.hid hs20
    clear hf hs20
    go_wp2_with fail
    refine HFE.out.mono ?_
    rintro e w2 ⟨rfl, hd2⟩
    have HB2 := Lib.hid (HB1.out.trans (hd2.below.mono HB1.out.size))
    clear hd2 HFE HB1 HCC
    by_cases h10 : sets.length ≤ 10
    · have hd10 : decide (((sets.length : Nat) : Int) > 10) = false := decide_eq_false (by omega)
      by_cases h20 : s.length ≤ 20
      · have hd20 : decide (((s.length : Nat) : Int) > 20) = false := decide_eq_false (by omega)
        have hss : ss sets = sets := List.take_of_length_le (by omega)
        have HCUT := Lib.hid (cut_calls w2 A c sets (by omega) hc (fun l hl => by have := HS20.out l hl; omega) (Kd.C_below HC.out HB2.out))
        rw [hss] at HCUT
        have hd : (decide (10 < (sets.length : Int)) || decide (20 < (s.length : Int))) = false := by rw [decide_eq_false (by omega), decide_eq_false (by omega)]; rfl
        clear hss
        go_wp2_with fail
        clear hd hd10 hd20
        refine HCUT.out.mono ?_
        rintro e w5 ⟨g, los, rfl, hlos, hAt, hb5, _⟩
        have hF := cut_facts hlos (by omega)
        have hll := los_short hlos (N := 20) HS20.out
        have hpl : (cutOf sets los).1.length ≤ 401 := by have := (cutOf_length sets los).1; omega
        have hml : (cutOf sets los).2.length ≤ 401 := by have := (cutOf_length sets los).2; omega
        generalize cutOf sets los = st at hAt hF hpl hml
        obtain ⟨ps, ms⟩ := st
        dsimp only at hAt hF hpl hml
        have HF := Lib.hid hF.1
        have HAT := Lib.hid hAt
        have HB5 := Lib.hid (HB2.out.trans (hb5.mono HB2.out.size))
        have HR5 := Lib.hid (Kd.F_below HCF.out HB5.out)
        have bge := HB5.out.size
        clear hlos hAt hb5 hF HCUT HB2 hll
        obtain ⟨T, hT⟩ : ∃ T, sets ++ [s] = T := ⟨_, rfl⟩
        have HT := Lib.hid hT
        clear hT
        go_wp2_with (first | (at_builtin; (refine Kd.N_append_rows (Kd.slice 41 k41) (W := w5) w5.heap.size rfl (.const (.slice none 0 0)) (.tmp 28) 39 26 (.slice none 0 0) 24 rfl Try.underlying39 infoSl2 rfl Nat.one_pos (by omega) (.slice none 0 0) [] sets A sets.length c (fun _ => True) (fun k => k < w.heap.size) rfl rfl (Kd.N_nil _ _ _ _ _) HR5.out (fun _ _ => ⟨trivial, by simp [Value.ownBlock]⟩) (fun _ _ => trivial) (Below.refl _ w5) (Nat.le_refl _) ?aL ?_); (case aL => simp; omega); intro v1 w6 ho hbl hgr hat; obtain ⟨A6, c6, e6⟩ := Kd.N_slice ho; subst e6; rw [List.nil_append] at ho; have HO6 := Lib.hid ho; have HB6 := Lib.hid hbl; have bge6 := hbl.size; have HBS := Lib.hid (Kd.N_base ho); have HFK6 := Lib.hid (Kd.FK_slice_mk (e := 41) hc1 (Kd.F_below HCF1.out (HB5.out.trans (hbl.mono HB5.out.size)))); clear ho hbl hgr hat) | (at_builtin; (refine Kd.N_append (Kd.slice 41 k41) (W := w6) w5.heap.size rfl (.tmp 29) (.tmp 31) 39 26 (.slice none 0 0) 24 rfl Try.underlying39 infoSl2 rfl Nat.one_pos (by omega) (.slice A6 sets.length c6) sets s [.slice A1 s.length c1] (fun _ => True) (fun k => k < w.heap.size) rfl rfl HFK6.out (fun k hk => ⟨trivial, fun e => absurd (HBS.out k e.symm) (by omega)⟩) (fun _ _ => trivial) HO6.out HB6.out bge6 ?aL ?_); (case aL => omega); intro v2 w7 ho hbl hgr hat; rw [HT.out] at ho; obtain ⟨A7, c7, e7⟩ := Kd.N_slice ho; subst e7; have HO7 := Lib.hid ho; have HB7 := Lib.hid hbl; clear ho hbl hgr hat))
        have HTL : Hid (T.length = sets.length + 1) := Lib.hid (by rw [← HT.out]; simp)
        obtain ⟨A8, c8, e8, hlc8, hC8⟩ := Kd.N_reads HO7.out
        obtain ⟨rfl, rfl⟩ : A7 = A8 ∧ c7 = c8 := by cases e8; exact ⟨rfl, rfl⟩
        have hssT : ss T = T := List.take_of_length_le (by have := HTL.out; omega)
        have HCUT := Lib.hid (cut_calls w7 A7 c7 T (by have := HTL.out; omega) hlc8 (fun l hl => by
          rw [← HT.out, List.mem_append, List.mem_singleton] at hl
          rcases hl with hl | rfl
          · have := HS20.out l hl; omega
          · omega) hC8)
        rw [hssT] at HCUT
        have HA7 := Lib.hid (HAT.out.later HB7.out)
        have HB7w := Lib.hid (HB5.out.trans (HB7.out.mono HB5.out.size))
        clear hssT hC8 e8 HO6 HB6 HO7 HBS HFK6 HR5 HCF HCF1 bge bge6 HC1 HC HAT
        go_wp2_with fail
        refine HCUT.out.mono ?_
        rintro e w8 ⟨g2, los2, rfl, hlos2, hAt2, hb8, _⟩
        have hG := (cut_facts hlos2 (by have := HTL.out; omega)).1
        generalize cutOf T los2 = st2 at hAt2 hG
        obtain ⟨qs, ns⟩ := st2
        dsimp only at hAt2 hG
        rw [← HT.out] at hG
        obtain ⟨hm1, hm2⟩ := more_len HF.out hG
        have HA8 := Lib.hid (HA7.out.later hb8)
        have HB8 := Lib.hid (HB7w.out.trans (hb8.mono HB7w.out.size))
        have L2 := Lib.hid (len_calls hAt2)
        have L1 := Lib.hid (len_calls HA8.out)
        have hd1 : decide ((ns.length : Int) < (ms.length : Int)) = false := decide_eq_false (by omega)
        have hd1n : decide (ns.length < ms.length) = false := decide_eq_false (by omega)
        have hd2 : decide ((ns.length : Int) > 2 * (ms.length : Int)) = false := decide_eq_false (by omega)
        clear hlos2 hAt2 hb8 hG HA7 HB7w HB7 HCUT hlc8
        go_wp2_with fail
        refine L2.out.mono ?_
        rintro e w8 ⟨rfl, rfl⟩
        go_wp2_with fail
        refine L1.out.mono ?_
        rintro e w8 ⟨rfl, rfl⟩
        go_wp2_with fail
        refine L2.out.mono ?_
        rintro e w8 ⟨rfl, rfl⟩
        go_wp2_with fail
        refine L1.out.mono ?_
        rintro e w8 ⟨rfl, rfl⟩
        go_wp2
        clear hd1 hd1n hd2 L1 L2
        go_loopg [7, 8] ms.length (fun gk v7 v8 wr => ∃ i : Nat, v8 = .int .i64 i ∧ i ≤ ms.length ∧ i ≤ 64 ∧ ms.length - i ≤ gk ∧ Hid (Kd.N (Kd.slice 41 k41) 26 wr w8.heap.size (fun _ => True) v7 (ownS ps i)) ∧ Hid (Below w8.heap.size w8 wr))
        case atStart => exact ⟨0, rfl, Nat.zero_le _, by omega, by omega, Lib.hid (Kd.N_nil _ _ _ _ _), Lib.hid (Below.refl _ w8)⟩
        case round =>
          obtain ⟨i, rfl, hi, hi64, hg, HN, HBR⟩ := hrel
          have HAR := Lib.hid (HA8.out.later HBR.out)
          have L1 := Lib.hid (len_calls HAR.out)
          obtain ⟨A9, c9, rfl⟩ := Kd.N_slice HN.out
          by_cases hlt : i < ms.length
          · by_cases h64 : i < 64
            · have S1 := Lib.hid (set_calls HAR.out (i : Int) (by omega) HF.out.bound)
              have HOL := Lib.hid (ownS_length ps i)
              have HOS := Lib.hid (ownS_succ ps i)
              generalize ownS ps i = S at HN HOL HOS
              generalize setC ps (i : Int) = X at S1 HOS
              go_wp2_with fail
              refine L1.out.mono ?_
              rintro e w9 ⟨rfl, rfl⟩
              go_wp2_with fail
              refine S1.out.mono ?_
              rintro e w10 ⟨vx, rfl, hRx, hb10⟩
              obtain ⟨Ax, cx, rfl, hlx, hCx⟩ := Kd.R_reads hRx
              have HFK := Lib.hid (Kd.FK_mono (Kd.FK_slice_mk (e := 41) hlx (Kd.R_F (Kd.R_bound hRx))) (ok' := fun k => w9.heap.size ≤ k) (fun k hk => hk.2.1))
              have HLT := Lib.hid (Kd.N_lt HN.out)
              have HN10 := Lib.hid (Kd.N_below HN.out hb10)
              have HB10 := Lib.hid (HBR.out.trans (hb10.mono HBR.out.size))
              have bge10 := HB10.out.size
              have hSl : S.length < 65 := by have := HOL.out; omega
              clear hRx hCx hb10 HN HBR HAR S1 L1 HOL hlx
              go_wp2_with (at_builtin; (refine Kd.N_append (Kd.slice 41 k41) (W := w10) w8.heap.size rfl (.tmp 57) (.tmp 61) 39 26 (.slice none 0 0) 24 rfl Try.underlying39 infoSl2 rfl Nat.one_pos (by omega) (.slice A9 S.length c9) S X [.slice Ax X.length cx] (fun _ => True) (fun k => w9.heap.size ≤ k) rfl rfl HFK.out (fun k hk => ⟨trivial, fun e => absurd (HLT.out k e.symm) (by omega)⟩) (fun _ _ => trivial) HN10.out HB10.out bge10 ?aL ?_); (case aL => omega); intro v1 w11 ho hbl hgr hat; obtain ⟨A7', c7', e7⟩ := Kd.N_slice ho; generalize (S ++ [X]).length = n7 at e7; subst e7; have HO9 := Lib.hid ho; have HW9 := Lib.hid hbl; clear ho hbl hgr hat)
              go_roundg (ms.length - (i + 1))
              case measure => omega
              case rel => exact ⟨i + 1, by go_num, by omega, by omega, Nat.le_refl _, Lib.hid (by rw [HOS.out]; exact HO9.out), HW9⟩
            · have hi4 : (i : Int) = 64 := by omega
              have hml64 : decide ((ms.length : Int) > 64) = true := decide_eq_true (by omega)
              have hd64 : decide ((i : Int) < 64) = false := decide_eq_false (by omega)
              clear hi4
              go_wp2_with fail
              refine L1.out.mono ?_
              rintro e w9 ⟨rfl, rfl⟩
              go_wp2_with fail
              refine L1.out.mono ?_
              rintro e w9 ⟨rfl, rfl⟩
              go_wp2
              go_ret
              exact ⟨rfl, HB8.out.trans (HBR.out.mono HB8.out.size)⟩
          · obtain rfl : i = ms.length := by omega
            have hml64 : decide ((ms.length : Int) > 64) = false := decide_eq_false (by omega)
            have hdlt : decide ((ms.length : Int) < (ms.length : Int)) = false := decide_eq_false (by omega)
            have HOW := Lib.hid (fun (us : List Pc) (ks : List Int) (H : Facts (ownS ps ms.length) us ks) => own_same HF.out H)
            have HSH := Lib.hid (own_short ps ms.length)
            have HOL := Lib.hid (ownS_length ps ms.length)
            generalize ownS ps ms.length = S at HN HOW HSH HOL
            go_wp2_with fail
            refine L1.out.mono ?_
            rintro e w9 ⟨rfl, rfl⟩
            go_wp2_with fail
            refine L1.out.mono ?_
            rintro e w9 ⟨rfl, rfl⟩
            obtain ⟨A10, c10, e10, hlc10, hC10⟩ := Kd.N_reads HN.out
            obtain ⟨rfl, rfl⟩ : A9 = A10 ∧ c9 = c10 := by cases e10; exact ⟨rfl, rfl⟩
            have hssS : ss S = S := List.take_of_length_le (by have := HOL.out; omega)
            have HCUT := Lib.hid (cut_calls w9 A9 c9 S (by have := HOL.out; omega) hlc10 (fun l hl => by have := HSH.out l hl; omega) hC10)
            rw [hssS] at HCUT
            clear hssS hC10 e10 HN HSH
            go_wp2_with fail
            refine HCUT.out.mono ?_
            rintro e w12 ⟨g3, los3, rfl, hlos3, hAt3, hb12, _⟩
            have hH := (cut_facts hlos3 (by have := HOL.out; omega)).1
            have hl3 := los_len hlos3
            have hul : (cutOf S los3).1.length < 1000000000 := by have := (cutOf_length S los3).1; omega
            generalize cutOf S los3 = st3 at hAt3 hH hul
            obtain ⟨us, ks⟩ := st3
            dsimp only at hAt3 hH hul
            obtain ⟨hkl, hsame⟩ := HOW.out us ks hH
            have HSAME := Lib.hid hsame
            have HUB := Lib.hid hH.bound
            have HA12 := Lib.hid (HAR.out.later hb12)
            have HE12 := Lib.hid hAt3
            have HB12 := Lib.hid (HB8.out.trans ((HBR.out.trans (hb12.mono HBR.out.size)).mono HB8.out.size))
            have L3 := Lib.hid (len_calls HE12.out)
            rw [hkl] at L3
            have L4 := Lib.hid (len_calls HA12.out)
            clear hlos3 hAt3 hH hl3 hsame hb12 HOW HCUT HAR HBR L1 HB8 HA8 hlc10
            go_wp2_with fail
            refine L3.out.mono ?_
            rintro e w12 ⟨rfl, rfl⟩
            go_wp2_with fail
            refine L4.out.mono ?_
            rintro e w12 ⟨rfl, rfl⟩
            go_wp2
            clear L3 L4 hdlt hml64
            go_loopg [10] ms.length (fun gk v10 wr => ∃ i : Nat, v10 = .int .i64 i ∧ i ≤ ms.length ∧ ms.length - i ≤ gk ∧ Hid (Below w12.heap.size w12 wr))
            case atStart => exact ⟨0, rfl, Nat.zero_le _, by omega, Lib.hid (Below.refl _ w12)⟩
            case round =>
              obtain ⟨k, rfl, hk, hg2, HBR⟩ := hrel
              have HAR := Lib.hid (HA12.out.later HBR.out)
              have HER := Lib.hid (HE12.out.later HBR.out)
              have L1 := Lib.hid (len_calls HAR.out)
              by_cases hlk : k < ms.length
              · have S1 := Lib.hid (set_calls HER.out (k : Int) hul HUB.out)
                have S2 := Lib.hid (fun W (h : ClsAt W g (sets.length : Int) ps ms) => set_calls h (k : Int) (by omega) HF.out.bound)
                have l1 := isC_length (setC_isC us (k : Int))
                have l2 := isC_length (setC_isC ps (k : Int))
                have hsm := Same_ev (setC us (k : Int)) (setC ps (k : Int)) (by omega) (by omega)
                rw [decide_eq_true (HSAME.out k hlk)] at hsm
                obtain ⟨m, hsm⟩ := hsm.get
                have HSM := Lib.hid hsm
                generalize setC us (k : Int) = X at S1 HSM
                generalize setC ps (k : Int) = Y at S2 HSM
                clear hsm l1 l2
                go_wp2_with fail
                refine L1.out.mono ?_
                rintro e w14 ⟨rfl, rfl⟩
                go_wp2_with fail
                refine S1.out.mono ?_
                rintro e w15 ⟨vx, rfl, hRx, hb15⟩
                have HA15 := Lib.hid (HAR.out.later hb15)
                have HB15 := Lib.hid (HBR.out.trans (hb15.mono HBR.out.size))
                have HRX := Lib.hid hRx
                obtain ⟨Ax, cx, rfl⟩ := Kd.R_slice hRx
                have S3 := Lib.hid (S2.out w15 HA15.out)
                clear hRx hb15 HAR HER HBR S1 S2 L1
                go_wp2_with fail
                refine S3.out.mono ?_
                rintro e w16 ⟨vy, rfl, hRy, hb16⟩
                have HB16 := Lib.hid (HB15.out.trans (hb16.mono HB15.out.size))
                obtain ⟨Ax', cx', ex, hlx, hCx⟩ := Kd.R_reads (Kd.R_below HRX.out hb16)
                obtain ⟨rfl, rfl⟩ : Ax = Ax' ∧ cx = cx' := by cases ex; exact ⟨rfl, rfl⟩
                obtain ⟨Ay, cy, rfl, hly, hCy⟩ := Kd.R_reads hRy
                have HSA := Lib.hid (uniset_Same.calls m Ax cx X Ay cy Y true w16 hCx hlx hCy hly HSM.out)
                clear hRy hb16 hCx hCy ex HSM HB15 HA15 S3 HRX hlx hly
                go_wp2_with fail
                refine HSA.out.mono ?_
                rintro e w17 ⟨rfl, hb17⟩
                have HB17 := Lib.hid (HB16.out.trans (hb17.mono HB16.out.size))
                clear hb17 HSA HB16
                go_wp2
                go_roundg (ms.length - (k + 1))
                case measure => omega
                case rel => exact ⟨k + 1, by go_num, by omega, Nat.le_refl _, HB17⟩
              · obtain rfl : k = ms.length := by omega
                go_wp2_with fail
                refine L1.out.mono ?_
                rintro e w14 ⟨rfl, rfl⟩
                go_wp2
                go_ret
                exact ⟨rfl, HB12.out.trans (HBR.out.mono HB12.out.size)⟩
      · have hd20 : decide (((s.length : Nat) : Int) > 20) = true := decide_eq_true (by omega)
        go_wp2
        go_ret
        exact ⟨rfl, HB2.out⟩
    · have hd10 : decide (((sets.length : Nat) : Int) > 10) = true := decide_eq_true (by omega)
      go_wp2
      go_ret
      exact ⟨rfl, HB2.out⟩
  · have hf' : fewB sets = false := by simpa using hf
    rw [hf'] at HFE
    clear hf hf'
    go_wp2_with fail
    refine HFE.out.mono ?_
    rintro e w2 ⟨rfl, hd2⟩
    have HB2 := Lib.hid (HB1.out.trans (hd2.below.mono HB1.out.size))
    clear hd2 HFE HB1 HCC
    go_wp2
    go_ret
    exact ⟨rfl, HB2.out⟩
end Go.Proofs.Ytnfnnmmblommiaa.PA
