/- A trie of the call's own, by the list of its words: what Add, Drop, Has, Len, Ends, All tell and leave. -/
import Derived.Test.YteaadpgammbdgaaAll
import Derived.Test.YteaadpgammbdgaaDrop
import Derived.Test.YteaadpgammbdgaaTrieKnown
namespace Go.Proofs.Yteaadpgammbdgaa.PA
open Go.RowKit Go.Shelf Go.Proofs.YteaadpgammbdgaaW.PrintWords Go.Proofs.YteaadpgammbdgaaW.PrintLast Go.Proofs.YteaadpgammbdgaaW.PrintMore
set_option linter.unusedVariables false
set_option linter.unusedSimpArgs false

/-- A trie that holds the words M; nb bounds what it is made of. -/
def Held (B : Nat) (w W : World) (tb nb : Nat) (M : List (List Int)) : Prop :=
  ∃ N g, St B w W tb N M.length g ∧ N ≤ nb ∧ M.length ≤ nb ∧ (∀ u, isWord g u.reverse = decide (u ∈ M)) ∧ M.Nodup ∧ [] ∉ M ∧ ∀ q, g q ≠ none → q.length ≤ 40
theorem Held.below {B : Nat} {w W : World} {tb nb : Nat} {M : List (List Int)} (h : Held B w W tb nb M) : Below B w W := by
  obtain ⟨N, g, S, _⟩ := h; exact S.below
theorem Held.le {B : Nat} {w W : World} {tb nb : Nat} {M : List (List Int)} (h : Held B w W tb nb M) : B ≤ W.heap.size := by
  obtain ⟨N, g, S, _⟩ := h; exact S.le
theorem Held.step {B : Nat} {w W W' : World} {tb nb : Nat} {M : List (List Int)} (h : Held B w W tb nb M) (k : Below W.heap.size W W') : Held B w W' tb nb M := by
  obtain ⟨N, g, S, r⟩ := h; exact ⟨N, g, S.step k, r⟩
theorem Held.up {B : Nat} {w W : World} {tb nb nb' : Nat} {M : List (List Int)} (h : Held B w W tb nb M) (k : nb ≤ nb') : Held B w W tb nb' M := by
  obtain ⟨N, g, S, h1, h2, r⟩ := h; exact ⟨N, g, S, by omega, by omega, r⟩
theorem Held.made (w W : World) (h : Below w.heap.size w W) :
    Held w.heap.size w (((W.alloc (.map #[] 0)).alloc (.cells #[.map (some W.heap.size), .bool false] 70)).alloc (.cells #[.pointer (some ⟨W.heap.size + 1, 0, none⟩), .int .i64 0] 72)) (W.heap.size + 1 + 1) 0 [] := by
  refine ⟨0, gNew W, St.made w W h, Nat.le_refl _, Nat.le_refl _, fun u => by rw [gNew_word]; simp, .nil, by simp, fun q hq => ?_⟩
  unfold gNew at hq
  split at hq
  · rename_i e; rw [e]; simp
  · exact absurd rfl hq
/-- What is no part of a trie lies as it lay. -/
def wordy : Obj → Bool
  | .cells _ t _ => t == 21 || t == 22
  | _ => false
def Keep (W W' : World) : Prop := ∀ (k : Nat) (o : Obj), W.heap[k]? = some o → wordy o = true → W'.heap[k]? = some o
theorem Keep.refl (W : World) : Keep W W := fun _ _ h _ => h
theorem Keep.trans {W W1 W2 : World} (h : Keep W W1) (k : Keep W1 W2) : Keep W W2 := fun i o hi ho => k i o (h i o hi ho) ho
theorem Keep.below {W W' : World} (h : Below W.heap.size W W') : Keep W W' := fun k o hk _ => (h.block k (Array.getElem?_eq_some_iff.1 hk).1).trans hk
theorem Keep.turned {W W' : World} {tb N n : Nat} {g g' : Gh} (T : TrieAt W tb N g n) (h : Turned W W' tb g g') : Keep W W' := fun k o hk ho => by
  have hlt := (Array.getElem?_eq_some_iff.1 hk).1
  refine (h.kept k hlt (fun ⟨p, nb, mb, hh, hg, e⟩ => ?_) (fun e => ?_)).trans hk
  · rcases e with rfl | rfl
    · rw [T.tree.node _ _ _ _ hg] at hk; cases hk; simp [wordy] at ho
    · obtain ⟨es, clock, hm⟩ := (T.tree.map _ _ _ _ hg).obj
      rw [hm] at hk; cases hk; simp [wordy] at ho
  · subst e
    obtain ⟨rb, mb, hh, hobj, _⟩ := T.obj
    rw [hobj] at hk; cases hk; simp [wordy] at ho
theorem WordRow.keep {W W' : World} {u : Value} {zs : List Int} (h : WordRow W u zs) (k : Keep W W') : WordRow W' u zs := row_kept h fun g cs _ hc => k g _ hc rfl
theorem RowsAt.keep {W W' : World} {v : Value} {L : List (List Int)} (h : RowsAt W v L) (k : Keep W W') : RowsAt W' v L := h.kept fun i cs t hc ht => k i _ hc (by rcases ht with rfl | ⟨rfl, _⟩ <;> rfl)
/-- A word in a block of its own, as a word that a slice holds. -/
theorem WordRow.at {B c : Nat} {W : World} {A : Option Addr} {zs : List Int} (h : WordRow W (.slice A zs.length c) zs) (ok : ∀ z ∈ zs, (Lit.int .i32 z).wf = true) (hl : zs.length < 4611686018427387904) : WordAt B W A zs := by
  obtain ⟨A', c', e, hC, _⟩ := h.reads
  simp only [Value.slice.injEq] at e
  obtain ⟨rfl, _, rfl⟩ := e
  refine ⟨hC, fun a ha hn => ?_, ok, hl⟩
  subst ha
  obtain ⟨cs, hc⟩ := row_block h a.block rfl
  exact ⟨_, hc, .inr rfl⟩
theorem RowsAt.cell {w : World} {A : Option Addr} {c : Nat} {L : List (List Int)} (h : RowsAt w (.slice A L.length c) L) {k : Nat} (hk : k < L.length) :
    ∃ g A' c', A = some ⟨g, 0, none⟩ ∧ w.cell? ⟨g, k, none⟩ = some (.slice A' (L.getD k []).length c') ∧ WordRow w (.slice A' (L.getD k []).length c') (L.getD k []) := by
  obtain ⟨vs, ho, hw⟩ := h
  rcases ho.2 with ⟨e, h0⟩ | ⟨g, cap, cur, e, _, hh, hlc, hcm, hcs, htk⟩
  · omega
  · simp only [Value.slice.injEq] at e
    obtain ⟨rfl, _, rfl⟩ := e
    have hvl : k < vs.length := by have := ho.1; omega
    have hrow := hw k _ _ (List.getElem?_eq_getElem hvl) (List.getElem?_eq_getElem hk)
    have hgd : L.getD k [] = L[k] := by simp [List.getD_eq_getElem?_getD, hk]
    rw [hgd]
    obtain ⟨A', c', e', _⟩ := hrow.reads
    refine ⟨g, A', c', rfl, ?_, by rw [← e']; exact hrow⟩
    unfold World.cell?
    simp only [hh]
    have : cur[k]? = vs[k]? := by rw [← htk, List.getElem?_take, if_pos (by omega), Array.getElem?_toList]
    rw [this, List.getElem?_eq_getElem hvl, e']
    rfl
/-- What the words are behind an Add. -/
def addW (M : List (List Int)) (u : List Int) : List (List Int) := if u = [] ∨ u ∈ M then M else u :: M
def newW (M : List (List Int)) (u : List Int) : Bool := !decide (u = [] ∨ u ∈ M)
def BoolHeld (B : Nat) (w W0 : World) (tb nb : Nat) (M : List (List Int)) (b : Bool) (e : Ending) (W : World) : Prop := e = .returned (.bool b) ∧ Held B w W tb nb M ∧ Keep W0 W
theorem Held.add {B : Nat} {w W : World} {tb nb c : Nat} {M : List (List Int)} {A : Option Addr} {zs : List Int} (h : Held B w W tb nb M) (hW : WordAt B W A zs) (hl : zs.length ≤ 40) (hn : nb ≤ 1000000) :
    Calls Try.prog 16 #[.pointer (some ⟨tb, 0, none⟩), .slice A zs.length c] W (BoolHeld B w W tb (nb + 40) (addW M zs) (newW M zs)) := by
  by_cases h0 : zs = []
  · subst h0
    refine add_empty.mono ?_
    rintro e w' ⟨rfl, rfl⟩
    exact ⟨by simp [newW], by simp only [addW, true_or, if_true]; exact h.up (by omega), .refl _⟩
  · have hpos : 0 < zs.length := by cases zs with | nil => exact absurd rfl h0 | cons _ _ => simp
    obtain ⟨N, g, S, h1, h2, h3, h4, h5, h6⟩ := h
    by_cases hm : zs ∈ M
    · refine (add_there S.trie hW S.le hpos (by rw [h3]; exact decide_eq_true hm)).mono ?_
      rintro e w' ⟨rfl, hb⟩
      have S' := S.step hb
      exact ⟨by simp [newW, hm], ⟨N, g, by simp only [addW, hm, or_true, if_true]; exact S', by omega, by simp only [addW, hm, or_true, if_true]; omega, by simp only [addW, hm, or_true, if_true]; exact h3, by simp only [addW, hm, or_true, if_true]; exact h4, by simp only [addW, hm, or_true, if_true]; exact h5, h6⟩, .below hb⟩
    · refine (add_new S.trie hW S.le S.own hpos (by rw [h3]; exact decide_eq_false hm) (by unfold maxLen; omega) (by omega)).mono ?_
      rintro e w' had
      obtain ⟨rfl, g', hT', hw, htu, hdp⟩ := had
      obtain ⟨_, g2, S', hw, hdp⟩ := S.added (zs := zs) (W' := w') ⟨rfl, g', hT', hw, htu, hdp⟩
      have hne : ¬ (zs = [] ∨ zs ∈ M) := fun q => q.elim h0 hm
      refine ⟨by simp [newW, h0, hm], ⟨N + zs.length, g2, ?_, by omega, ?_, ?_, ?_, ?_, ?_⟩, .turned S.trie htu⟩
      all_goals (try simp only [addW, if_neg hne])
      · exact S'
      · simp only [List.length_cons]; omega
      · intro u
        rw [hw, h3]
        have : (u.reverse = zs.reverse) ↔ u = zs := List.reverse_inj
        simp only [this, List.mem_cons]
        by_cases e1 : u ∈ M <;> by_cases e2 : u = zs <;> simp [e1, e2]
      · exact List.nodup_cons.2 ⟨hm, h4⟩
      · simp only [List.mem_cons, not_or]; exact ⟨fun e => h0 e.symm, h5⟩
      · intro q hq
        rcases hdp q hq with e | e
        · exact h6 q e
        · omega
theorem Held.has {B : Nat} {w W : World} {tb nb c : Nat} {M : List (List Int)} {A : Option Addr} {zs : List Int} (h : Held B w W tb nb M) (hW : WordAt B W A zs) :
    Calls Try.prog 29 #[.pointer (some ⟨tb, 0, none⟩), .slice A zs.length c] W (BoolHeld B w W tb nb M (decide (zs ∈ M))) := by
  have hh := h
  obtain ⟨N, g, S, h1, h2, h3, h4, h5, h6⟩ := h
  refine (has_calls S.trie hW S.le).mono ?_
  rintro e w' ⟨rfl, hb⟩
  exact ⟨by rw [h3], hh.step hb, .below hb⟩
theorem mark_erase {M : List (List Int)} (h4 : M.Nodup) (zs u : List Int) : decide (u ∈ M.erase zs) = (decide (u ∈ M) && !decide (u = zs)) := by
  rw [Bool.eq_iff_iff]
  simp only [decide_eq_true_eq, Bool.and_eq_true, Bool.not_eq_true', decide_eq_false_iff_not, h4.mem_erase_iff]
  exact ⟨fun ⟨a, b⟩ => ⟨b, a⟩, fun ⟨a, b⟩ => ⟨b, a⟩⟩
theorem Held.drop {B : Nat} {w W : World} {tb nb c : Nat} {M : List (List Int)} {A : Option Addr} {zs : List Int} (h : Held B w W tb nb M) (hW : WordAt B W A zs) (hn : nb ≤ 1000000) :
    Calls Try.prog 33 #[.pointer (some ⟨tb, 0, none⟩), .slice A zs.length c] W (BoolHeld B w W tb nb (M.erase zs) (decide (zs ∈ M))) := by
  have hh := h
  obtain ⟨N, g, S, h1, h2, h3, h4, h5, h6⟩ := h
  by_cases hm : zs ∈ M
  · have hpos := List.length_pos_of_mem hm
    refine (drop_yes S.trie hW S.le (by rw [h3]; exact decide_eq_true hm) hpos (by omega)).mono ?_
    rintro e w' ⟨rfl, g', T, hw, ht, hdp⟩
    have hlen : (M.erase zs).length = M.length - 1 := List.length_erase_of_mem hm
    refine ⟨by rw [decide_eq_true hm], ⟨N, g', ⟨by rw [hlen]; exact T, fun b hb => ?_, S.tb_, S.below.trans (ht.below S.own S.tb_ S.le), Nat.le_trans S.le ht.size⟩, h1, by omega, fun u => ?_, h4.erase _, fun e => h5 (List.mem_of_mem_erase e), fun q hq => ?_⟩, .turned S.trie ht⟩
    · rcases ht.own b hb with q | q
      · exact S.own b q
      · exact Nat.le_trans S.le q
    · rw [hw, h3, mark_erase h4]
      simp only [List.reverse_inj]
    · rcases hdp q hq with e | e
      · exact h6 q e
      · omega
  · refine (drop_no S.trie hW S.le (by rw [h3]; exact decide_eq_false hm)).mono ?_
    rintro e w' ⟨rfl, hb⟩
    refine ⟨by rw [decide_eq_false hm], ?_, .below hb⟩
    rw [List.erase_of_not_mem hm]
    exact hh.step hb
theorem Held.len {B : Nat} {w W : World} {tb nb : Nat} {M : List (List Int)} (h : Held B w W tb nb M) :
    Calls Try.prog 18 #[.pointer (some ⟨tb, 0, none⟩)] W fun e w' => e = .returned (.int .i64 (M.length : Int)) ∧ w' = W := by
  obtain ⟨N, g, S, _⟩ := h
  exact len_calls S.trie
/-- The lengths of words that end at a place, up to k. -/
def endsM (M : List (List Int)) (text : List Int) (tz : Nat) : Nat → List Int
  | 0 => []
  | k + 1 => endsM M text tz k ++ (if (ahead text tz (k + 1)).reverse ∈ M then [((k + 1 : Nat) : Int)] else [])
theorem endsUp_M {g : Gh} {M : List (List Int)} (h : ∀ u, isWord g u.reverse = decide (u ∈ M)) (text : List Int) (tz : Nat) : ∀ k, endsUp g text tz k = endsM M text tz k
  | 0 => rfl
  | k + 1 => by
    rw [endsUp, endsM, endsUp_M h text tz k]
    have := h (ahead text tz (k + 1)).reverse
    rw [List.reverse_reverse] at this
    rw [this]
    simp
def EndsHeld (B : Nat) (w W0 : World) (tb nb : Nat) (M : List (List Int)) (l : List Int) (e : Ending) (W : World) : Prop :=
  ∃ A c, e = .returned (.slice A l.length c) ∧ Kd.C (Kd.int .i64) W A l.length l ∧ Held B w W tb nb M ∧ Keep W0 W
theorem Held.ends {B : Nat} {w W : World} {tb nb c tz : Nat} {M : List (List Int)} {A : Option Addr} {zs : List Int} (h : Held B w W tb nb M) (hW : WordAt B W A zs) (hto : tz ≤ zs.length) (hl : zs.length < 1099511627776) :
    Calls Try.prog 17 #[.pointer (some ⟨tb, 0, none⟩), .slice A zs.length c, .int .i64 (tz : Int)] W (EndsHeld B w W tb nb M (endsM M zs tz tz)) := by
  have hh := h
  obtain ⟨N, g, S, h1, h2, h3, h4, h5, h6⟩ := h
  refine (ends_calls S.trie hW.row hW.ok hto hl).mono fun e W' ⟨v, he, hR, hb⟩ => ?_
  obtain ⟨A2, c2, rfl, _, hC⟩ := Kd.R_reads hR
  rw [endsUp_M h3] at he hC
  exact ⟨A2, c2, he, hC, hh.step hb, .below hb⟩
def AllHeld (B : Nat) (w W0 : World) (tb nb : Nat) (M : List (List Int)) (e : Ending) (W : World) : Prop :=
  ∃ A c L, e = .returned (.slice A L.length c) ∧ RowsAt W (.slice A L.length c) L ∧ L.Perm M ∧ L.Pairwise (fun a b => ltL a b = true) ∧ Held B w W tb nb M ∧ Keep W0 W
theorem nodup_le : ∀ {K M : List (List Int)}, K.Nodup → (∀ u ∈ K, u ∈ M) → K.length ≤ M.length
  | [], _, _, _ => Nat.zero_le _
  | u :: K, M, hn, hs => by
    have hu := hs u List.mem_cons_self
    have := nodup_le (K := K) (M := M.erase u) (List.nodup_cons.1 hn).2 fun v hv => (List.mem_erase_of_ne (fun e => (List.nodup_cons.1 hn).1 (by rw [← e]; exact hv))).2 (hs v (List.mem_cons_of_mem _ hv))
    rw [List.length_erase_of_mem hu] at this
    have := List.length_pos_of_mem hu
    simp only [List.length_cons]; omega
theorem Held.all {B : Nat} {w W : World} {tb nb : Nat} {M : List (List Int)} (h : Held B w W tb nb M) (hn : nb < 1000000) :
    Calls Try.prog 27 #[.pointer (some ⟨tb, 0, none⟩)] W (AllHeld B w W tb nb M) := by
  have hh := h
  obtain ⟨N, g, S, h1, h2, h3, h4, h5, h6⟩ := h
  refine (all_calls S.trie (D := 40) (m := nb) h6 (by omega) hn (fun K hK hw => Nat.le_trans (nodup_le hK fun u hu => ?_) h2)).mono ?_
  · have := hw u hu
    rw [h3] at this
    exact of_decide_eq_true this
  · rintro e w' ⟨v, L, rfl, hR, hm, hp, hb⟩
    obtain ⟨A, n, c, rfl⟩ := hR.form
    have hn' : n = L.length := by
      obtain ⟨vs, ho, _⟩ := hR
      rcases ho.2 with ⟨e, h0⟩ | ⟨g, cap, cur, e, _⟩ <;> (simp only [Value.slice.injEq] at e; omega)
    subst hn'
    refine ⟨A, c, L, rfl, hR, ?_, hp, hh.step hb, .below hb⟩
    have hnd : L.Nodup := hp.imp fun {a b} hab e => by subst e; rw [ltL_irrefl] at hab; cases hab
    rw [List.perm_ext_iff_of_nodup hnd h4]
    intro u
    rw [hm, h3]
    simp
end Go.Proofs.Yteaadpgammbdgaa.PA
