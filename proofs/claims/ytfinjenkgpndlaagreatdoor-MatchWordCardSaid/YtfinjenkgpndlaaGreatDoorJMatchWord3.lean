/- The tied card of MatchWord: for each input that the row speaks of the law's function returns true, and its arguments read as they read before; the conditions are the row's own. Part 3 of 6. -/
import Derived.Test.YtfinjenkgpndlaaGreatDoorJMatchWord2
import Derived.Shelf.Abstract
import Derived.Shelf.Strings.Prefix
import Derived.Shelf.Small.Strs
import Derived.Shelf.Unicode.Decode
import Derived.Test.YtfinjenkgpndlaaGreatDoorProg
import Derived.Deep.DeepFit
import Derived.Outline
import Derived.Lib.Hide
import Derived.IntWalk
import Derived.RangeFuncNested
import Derived.RangeFuncBound
import Derived.RangeFuncCalls
import Derived.RangeFuncLeaves
import Derived.Shelf.RegionOpen
import Derived.WalkKit
import Derived.OwnWalkIn
import Derived.TacticsInMore
import Derived.LoopNIn
import Derived.LoopIn
import Derived.Maps.AppendAt
import Derived.Maps.OwnIn
namespace Go.Proofs.YtfinjenkgpndlaaGreatDoor.PA
open Go.RowKit
set_option linter.unusedVariables false
set_option linter.unusedSimpArgs false

abbrev Rg := S58
def good (x : Rg) : Bool := decide (0 ≤ x.f0) && decide (x.f0 ≤ x.f1) && decide (x.f1 ≤ 1114111)
theorem good_iff {x : Rg} : good x = true ↔ 0 ≤ x.f0 ∧ x.f0 ≤ x.f1 ∧ x.f1 ≤ 1114111 := by
  unfold good; simp [and_assoc]
def hasL (l : List Rg) (r : Int) : Bool := l.any fun x => good x && decide (x.f0 ≤ r) && decide (r ≤ x.f1)
end Go.Proofs.YtfinjenkgpndlaaGreatDoor.PA

namespace Go.Proofs.YtfinjenkgpndlaaGreatDoor.PA
open Go.RowKit Go.Shelf Go.Proofs.YtfinjenkgpndlaaGreatDoorW.PrintWords Go.Proofs.YtfinjenkgpndlaaGreatDoorW.PrintLast Go.Proofs.YtfinjenkgpndlaaGreatDoorW.PrintMore
set_option linter.unusedVariables false
set_option linter.unusedSimpArgs false

abbrev Tok := S77
abbrev Nd := S26
def zTok : Tok := ⟨0, 0, ⟨#[]⟩, 0⟩
def zNd : Nd := ⟨0, 0, [], ⟨#[]⟩, []⟩
def isBl (c : UInt8) : Bool := c == 32 || c == 9 || c == 13
def isSg (c : UInt8) : Bool := c == 91 || c == 93 || c == 40 || c == 41 || c == 124 || c == 42 || c == 43 || c == 63 || c == 46 || c == 94 || c == 45 || c == 58 || c == 61
def scanL : List UInt8 → Nat → Option (List Tok)
  | [], _ => some []
  | c :: cs, p => if isBl c then scanL cs (p + 1) else if c == 39 then
      match cs with
      | [] => none
      | d :: ds => if d.toNat < 128 && d != 10 && d != 92 then (scanL ds (p + 2)).map (fun r => (⟨4, p, ⟨#[]⟩, d.toNat⟩ : Tok) :: r) else none
    else if isSg c then (scanL cs (p + 1)).map (fun r => (⟨6, p, ⟨#[c]⟩, 0⟩ : Tok) :: r) else none
def scanP (s : List UInt8) : Option (List Tok) := (scanL s 0).map (fun r => r ++ [(⟨0, s.length, ⟨#[]⟩, 0⟩ : Tok)])
structure Rd where
  i : Int
  op : Int
  e : Int
  at_ : Int
def nowP (l : List Tok) (i : Int) : Tok := if i < 0 then zTok else l.getD i.toNat zTok
def isP (l : List Tok) (st : Rd) (c : UInt8) : Bool := st.e == 0 && (nowP l st.i).f0 == 6 && (nowP l st.i).f2.data.toList == [c]
def adv (st : Rd) : Rd := { st with i := st.i + 1 }
def failsP (st : Rd) (at_ e : Int) : Rd := if st.e == 0 then { st with at_ := at_, e := e } else st
def mustP (l : List Tok) (st : Rd) (c : UInt8) : Rd := if isP l st c then adv st else failsP st st.i 70
def beginsP (l : List Tok) (st : Rd) : Bool := (nowP l st.i).f0 == 1 || (nowP l st.i).f0 == 4 || (nowP l st.i).f0 == 5 || isP l st 46 || isP l st 40 || isP l st 91
def againP (l : List Tok) (st : Rd) : Int := if isP l st 42 then 6 else if isP l st 43 then 7 else if isP l st 63 then 8 else 0
def twoN (kind : Int) (a b : Nd) : Nd := ⟨kind, a.f1, [], ⟨#[]⟩, [a, b]⟩
def oneN (kind : Int) (a : Nd) : Nd := ⟨kind, a.f1, [], ⟨#[]⟩, [a]⟩
inductive Md where
  | alt | altL (e : Nd) | cat | catL (e : Nd) | rep | repL (e : Nd) | prim | bracket (at_ place : Int)
def runP (l : List Tok) : Nat → Md → Rd → Option (Nd × Rd)
  | 0, _, _ => none
  | k + 1, .alt, st => (runP l k .cat st).bind fun r => runP l k (.altL r.1) r.2
  | k + 1, .altL e, st => if isP l st 124 then (runP l k .cat (adv st)).bind fun r => runP l k (.altL (twoN 5 e r.1)) r.2 else some (e, st)
  | k + 1, .cat, st => (runP l k .rep st).bind fun r => runP l k (.catL r.1) r.2
  | k + 1, .catL e, st => if st.e == 0 && beginsP l st then (runP l k .rep st).bind fun r => runP l k (.catL (twoN 4 e r.1)) r.2 else some (e, st)
  | k + 1, .rep, st => (runP l k .prim st).bind fun r => runP l k (.repL r.1) r.2
  | k + 1, .repL e, st => if againP l st == 0 then some (e, st) else runP l k (.repL (oneN (againP l st) e)) (adv st)
  | k + 1, .prim, st =>
    if st.e == 0 then
      if (nowP l st.i).f0 == 1 then some (⟨2, (nowP l st.i).f1, [], (nowP l st.i).f2, []⟩, adv st)
      else if (nowP l st.i).f0 == 4 then some (⟨1, (nowP l st.i).f1, [⟨(nowP l st.i).f3, (nowP l st.i).f3⟩], ⟨#[]⟩, []⟩, adv st)
      else if (nowP l st.i).f0 == 5 then none
      else if isP l st 46 then some (⟨1, (nowP l st.i).f1, [⟨0, 1114111⟩], ⟨#[]⟩, []⟩, adv st)
      else if isP l st 91 then none
      else if isP l st 40 then runP l k (.bracket st.i (nowP l st.i).f1) (adv st)
      else some (zNd, failsP st st.i 70)
    else some (zNd, st)
  | k + 1, .bracket a p, st =>
    if 20 ≤ st.op then some (zNd, failsP st a 71)
    else if isP l st 41 then some (⟨3, p, [], ⟨#[]⟩, []⟩, adv st)
    else (runP l k .alt { st with op := st.op + 1 }).bind fun r => some (r.1, mustP l { r.2 with op := r.2.op - 1 } 41)
theorem nowP_in {l : List Tok} {i : Int} (h : (nowP l i).f0 ≠ 0) : 0 ≤ i ∧ i.toNat < l.length := by
  unfold nowP at h
  split at h
  · exact absurd rfl h
  · refine ⟨by omega, ?_⟩
    rcases Nat.lt_or_ge i.toNat l.length with h1 | h1
    · exact h1
    · rw [List.getD_eq_getElem?_getD, List.getElem?_eq_none h1] at h
      exact absurd rfl h
theorem isP_in {l : List Tok} {st : Rd} {c : UInt8} (h : isP l st c = true) : 0 ≤ st.i ∧ st.i.toNat < l.length ∧ st.e = 0 := by
  unfold isP at h
  simp only [Bool.and_eq_true, beq_iff_eq] at h
  have := nowP_in (l := l) (i := st.i) (by rw [h.1.2]; decide)
  exact ⟨this.1, this.2, h.1.1⟩
end Go.Proofs.YtfinjenkgpndlaaGreatDoor.PA

namespace Go.Proofs.YtfinjenkgpndlaaGreatDoor.PA
open Go.RowKit Go.Shelf Go.Proofs.YtfinjenkgpndlaaGreatDoorW.PrintWords Go.Proofs.YtfinjenkgpndlaaGreatDoorW.PrintLast Go.Proofs.YtfinjenkgpndlaaGreatDoorW.PrintMore
set_option linter.unusedVariables false
set_option linter.unusedSimpArgs false

inductive Mt (x : List Int) : Nd → Nat → Nat → Prop where
  | set (e : Nd) (i : Nat) (r : Int) (hk : e.f0 = 1) (hr : x[i]? = some r) (hh : hasL e.f2 r = true) : Mt x e i (i + 1)
  | none (e : Nd) (i : Nat) (hk : e.f0 = 3) (hi : i ≤ x.length) : Mt x e i i
  | cat (e a b : Nd) (i j k : Nat) (hk : e.f0 = 4) (hs : e.f4 = [a, b]) (h1 : Mt x a i j) (h2 : Mt x b j k) : Mt x e i k
  | altL (e a b : Nd) (i j : Nat) (hk : e.f0 = 5) (hs : e.f4 = [a, b]) (h1 : Mt x a i j) : Mt x e i j
  | altR (e a b : Nd) (i j : Nat) (hk : e.f0 = 5) (hs : e.f4 = [a, b]) (h1 : Mt x b i j) : Mt x e i j
  | star0 (e : Nd) (i : Nat) (hk : e.f0 = 6) (hi : i ≤ x.length) : Mt x e i i
  | starS (e a : Nd) (i j k : Nat) (hk : e.f0 = 6) (hs : e.f4 = [a]) (h1 : Mt x a i j) (h2 : Mt x e j k) : Mt x e i k
  | plus (e a : Nd) (i j k : Nat) (hk : e.f0 = 7) (hs : e.f4 = [a]) (h1 : Mt x a i j) (h2 : Mt x (oneN 6 a) j k) : Mt x e i k
  | opt0 (e : Nd) (i : Nat) (hk : e.f0 = 8) (hi : i ≤ x.length) : Mt x e i i
  | optS (e a : Nd) (i j : Nat) (hk : e.f0 = 8) (hs : e.f4 = [a]) (h1 : Mt x a i j) : Mt x e i j
theorem Mt.le {x : List Int} {e : Nd} {i j : Nat} (h : Mt x e i j) : i ≤ j ∧ j ≤ x.length := by
  induction h with
  | set e i r hk hr hh => have := (List.getElem?_eq_some_iff.1 hr).1; omega
  | none e i hk hi => omega
  | cat e a b i j k hk hs h1 h2 i1 i2 => omega
  | altL e a b i j hk hs h1 i1 => exact i1
  | altR e a b i j hk hs h1 i1 => exact i1
  | star0 e i hk hi => omega
  | starS e a i j k hk hs h1 h2 i1 i2 => omega
  | plus e a i j k hk hs h1 h2 i1 i2 => omega
  | opt0 e i hk hi => omega
  | optS e a i j hk hs h1 i1 => exact i1
section
variable {x : List Int} {e a b : Nd} {i j : Nat}
theorem mt_set (hk : e.f0 = 1) : Mt x e i j ↔ j = i + 1 ∧ ∃ r, x[i]? = some r ∧ hasL e.f2 r = true := by
  constructor
  · intro h
    cases h with
    | set _ _ r _ h1 h2 => exact ⟨rfl, r, h1, h2⟩
    | _ => omega
  · rintro ⟨rfl, r, h1, h2⟩; exact .set e i r hk h1 h2
theorem mt_none (hk : e.f0 = 3) : Mt x e i j ↔ j = i ∧ i ≤ x.length := by
  constructor
  · intro h
    cases h with
    | none _ _ _ h1 => exact ⟨rfl, h1⟩
    | _ => omega
  · rintro ⟨rfl, h⟩; exact .none e _ hk h
theorem mt_cat (hk : e.f0 = 4) (hs : e.f4 = [a, b]) : Mt x e i j ↔ ∃ m, Mt x a i m ∧ Mt x b m j := by
  constructor
  · intro h
    cases h with
    | cat _ a' b' _ m _ _ hs' h1 h2 =>
      rw [hs] at hs'; simp only [List.cons.injEq, and_true] at hs'; obtain ⟨rfl, rfl⟩ := hs'; exact ⟨_, h1, h2⟩
    | _ => omega
  · rintro ⟨m, h1, h2⟩; exact .cat e a b i m j hk hs h1 h2
theorem mt_alt (hk : e.f0 = 5) (hs : e.f4 = [a, b]) : Mt x e i j ↔ Mt x a i j ∨ Mt x b i j := by
  constructor
  · intro h
    cases h with
    | altL _ a' b' _ _ _ hs' h1 => rw [hs] at hs'; simp only [List.cons.injEq, and_true] at hs'; obtain ⟨rfl, rfl⟩ := hs'; exact .inl h1
    | altR _ a' b' _ _ _ hs' h1 => rw [hs] at hs'; simp only [List.cons.injEq, and_true] at hs'; obtain ⟨rfl, rfl⟩ := hs'; exact .inr h1
    | _ => omega
  · rintro (h | h)
    · exact .altL e a b i j hk hs h
    · exact .altR e a b i j hk hs h
theorem mt_plus (hk : e.f0 = 7) (hs : e.f4 = [a]) : Mt x e i j ↔ ∃ m, Mt x a i m ∧ Mt x (oneN 6 a) m j := by
  constructor
  · intro h
    cases h with
    | plus _ a' _ m _ _ hs' h1 h2 => rw [hs] at hs'; simp only [List.cons.injEq, and_true] at hs'; subst hs'; exact ⟨_, h1, h2⟩
    | _ => omega
  · rintro ⟨m, h1, h2⟩; exact .plus e a i m j hk hs h1 h2
theorem mt_opt (hk : e.f0 = 8) (hs : e.f4 = [a]) : Mt x e i j ↔ (j = i ∧ i ≤ x.length) ∨ Mt x a i j := by
  constructor
  · intro h
    cases h with
    | opt0 _ _ _ h1 => exact .inl ⟨rfl, h1⟩
    | optS _ a' _ _ _ hs' h1 => rw [hs] at hs'; simp only [List.cons.injEq, and_true] at hs'; subst hs'; exact .inr h1
    | _ => omega
  · rintro (⟨rfl, h⟩ | h)
    · exact .opt0 e _ hk h
    · exact .optS e a i j hk hs h
theorem star_trans (hk : e.f0 = 6) {k : Nat} (h : Mt x e i j) (h2 : Mt x e j k) : Mt x e i k := by
  induction h with
  | star0 e i _ hi => exact h2
  | starS e a i j k' _ hs h1 _ _ i2 => exact .starS e a i j k hk hs h1 (i2 hk h2)
  | _ => omega
end
end Go.Proofs.YtfinjenkgpndlaaGreatDoor.PA

namespace Go.Proofs.YtfinjenkgpndlaaGreatDoor.PA
open Go.RowKit Go.Shelf Go.Proofs.YtfinjenkgpndlaaGreatDoorW.PrintWords Go.Proofs.YtfinjenkgpndlaaGreatDoorW.PrintLast Go.Proofs.YtfinjenkgpndlaaGreatDoorW.PrintMore
set_option linter.unusedVariables false
set_option linter.unusedSimpArgs false

def AllM (x : List Int) (e : Nd) : Prop := Mt x e 0 x.length
def nd0 (kind : Int) : Nd := ⟨kind, 0, [], ⟨#[]⟩, []⟩
def nd2 (kind : Int) (a b : Nd) : Nd := ⟨kind, 0, [], ⟨#[]⟩, [a, b]⟩
def ndS (lo hi : Int) : Nd := ⟨1, 0, [⟨lo, hi⟩], ⟨#[]⟩, []⟩
section
variable (x : List Int) (a b c : Nd) (i j : Nat)
end
theorem mt_nil (x : List Int) (i j : Nat) : Mt x (nd0 3) i j ↔ j = i ∧ i ≤ x.length := mt_none rfl
theorem one_has {r : Int} (h0 : 0 ≤ r) (h1 : r ≤ 1114111) (s : Int) : hasL [⟨r, r⟩] s = true ↔ s = r := by
  unfold hasL good
  simp
  omega
theorem mt_ndS (x : List Int) {r : Int} (h0 : 0 ≤ r) (h1 : r ≤ 1114111) (i j : Nat) : Mt x (ndS r r) i j ↔ j = i + 1 ∧ x[i]? = some r := by
  rw [mt_set rfl]
  constructor
  · rintro ⟨rfl, s, h2, h3⟩
    rw [(one_has h0 h1 s).1 h3] at h2
    exact ⟨rfl, h2⟩
  · rintro ⟨rfl, h2⟩
    exact ⟨rfl, r, h2, (one_has h0 h1 r).2 rfl⟩
def wordN (w : List Int) : Nd := w.foldl (fun e c => nd2 4 e (ndS c c)) (nd0 3)
theorem wordN_snoc (w : List Int) (c : Int) : wordN (w ++ [c]) = nd2 4 (wordN w) (ndS c c) := by simp [wordN]
theorem mt_word' (x : List Int) : ∀ (n : Nat) (w : List Int), w.length = n → (∀ c ∈ w, 0 ≤ c ∧ c ≤ 1114111) → ∀ i j, Mt x (wordN w) i j ↔ j = i + w.length ∧ i ≤ x.length ∧ ∀ k, ∀ hk : k < w.length, x[i + k]? = some w[k]
  | 0, w, hn, hw, i, j => by
    obtain rfl := List.eq_nil_of_length_eq_zero hn
    show Mt x (nd0 3) i j ↔ _
    rw [mt_nil]
    simp
  | n + 1, w, hn, hw, i, j => by
    obtain ⟨v, c, rfl⟩ : ∃ v c, w = v ++ [c] := by
      have hne : w ≠ [] := by intro e; subst e; simp at hn
      exact ⟨w.dropLast, w.getLast hne, (List.dropLast_concat_getLast hne).symm⟩
    have hv : v.length = n := by simpa using hn
    have hc := hw c (by simp)
    rw [wordN_snoc, mt_cat (a := wordN v) (b := ndS c c) rfl rfl]
    simp only [mt_word' x n v hv (fun d hd => hw d (by simp [hd])), mt_ndS x hc.1 hc.2]
    constructor
    · rintro ⟨m, ⟨rfl, h1, h2⟩, rfl, h3⟩
      refine ⟨by simp; omega, h1, fun k hk => ?_⟩
      rcases Nat.lt_or_ge k v.length with h4 | h4
      · rw [List.getElem_append_left h4]; exact h2 k h4
      · obtain rfl : k = v.length := by simp at hk; omega
        rw [List.getElem_append_right (Nat.le_refl _)]
        simpa using h3
    · rintro ⟨rfl, h1, h2⟩
      refine ⟨i + v.length, ⟨rfl, h1, fun k hk => ?_⟩, by simp; omega, ?_⟩
      · have := h2 k (by simp; omega)
        rwa [List.getElem_append_left hk] at this
      · have := h2 v.length (by simp)
        rw [List.getElem_append_right (Nat.le_refl _)] at this
        simpa using this
theorem mt_word (x w : List Int) (hw : ∀ c ∈ w, 0 ≤ c ∧ c ≤ 1114111) (i j : Nat) : Mt x (wordN w) i j ↔ j = i + w.length ∧ i ≤ x.length ∧ ∀ k, ∀ hk : k < w.length, x[i + k]? = some w[k] := mt_word' x w.length w rfl hw i j
theorem word_all (x w : List Int) (hw : ∀ c ∈ w, 0 ≤ c ∧ c ≤ 1114111) : AllM x (wordN w) ↔ x = w := by
  unfold AllM
  rw [mt_word x w hw]
  constructor
  · rintro ⟨h1, _, h2⟩
    apply List.ext_getElem (by omega)
    intro k hk hk2
    have := h2 k hk2
    rw [Nat.zero_add, List.getElem?_eq_getElem hk] at this
    exact Option.some.inj this
  · rintro rfl
    exact ⟨by omega, Nat.zero_le _, fun k hk => by rw [Nat.zero_add]; exact List.getElem?_eq_getElem hk⟩
end Go.Proofs.YtfinjenkgpndlaaGreatDoor.PA

namespace Go.Proofs.YtfinjenkgpndlaaGreatDoor.PA
set_option linter.unusedVariables false
def Evt {α : Type} (f : Nat → Option α) (r : α) : Prop := ∃ K, ∀ k, K ≤ k → f k = some r
theorem Evt.pure {α : Type} (r : α) : Evt (fun _ => some r) r := ⟨0, fun _ _ => rfl⟩
theorem Evt.bind {α β : Type} {f : Nat → Option α} {g : Nat → α → Option β} {a : α} {b : β} (h : Evt f a) (k : Evt (fun n => g n a) b) : Evt (fun n => (f n).bind (g n)) b := by
  obtain ⟨K, h⟩ := h
  obtain ⟨L, k⟩ := k
  exact ⟨max K L, fun n hn => by show (f n).bind (g n) = some b; rw [h n (by omega)]; exact k n (by omega)⟩
theorem Evt.succ {α : Type} {f g : Nat → Option α} {r : α} (e : ∀ k, f (k + 1) = g k) (h : Evt g r) : Evt f r := by
  obtain ⟨K, h⟩ := h
  refine ⟨K + 1, fun k hk => ?_⟩
  obtain ⟨j, rfl⟩ : ∃ j, k = j + 1 := ⟨k - 1, by omega⟩
  rw [e, h j (by omega)]
theorem Evt.get {α : Type} {f : Nat → Option α} {r : α} (h : Evt f r) : ∃ k, f k = some r := by
  obtain ⟨K, h⟩ := h
  exact ⟨K, h K (Nat.le_refl _)⟩
theorem Evt.congr {α : Type} {f g : Nat → Option α} {r : α} (e : ∀ k, f k = g k) (h : Evt g r) : Evt f r := by
  obtain ⟨K, h⟩ := h
  exact ⟨K, fun k hk => by rw [e, h k hk]⟩
theorem Evt.cast {α : Type} {f : Nat → Option α} {r s : α} (h : Evt f r) (e : r = s) : Evt f s := e ▸ h
end Go.Proofs.YtfinjenkgpndlaaGreatDoor.PA

namespace Go.Proofs.YtfinjenkgpndlaaGreatDoor.PA
open Go.RowKit Go.Proofs.YtfinjenkgpndlaaGreatDoorW.PrintWords Go.Proofs.YtfinjenkgpndlaaGreatDoorW.PrintLast Go.Proofs.YtfinjenkgpndlaaGreatDoorW.PrintMore
set_option linter.unusedVariables false
set_option linter.unusedSimpArgs false
theorem rd_mid (pre : List Rg) (x : Rg) (suf : List Rg) : rd_T58 (pre ++ x :: suf) (pre.length : Int) = x := by
  unfold rd_T58
  simp [List.getD]
theorem len_mid (pre : List Rg) (x : Rg) (suf : List Rg) : ((pre.length : Int)) < ((pre ++ x :: suf).length : Int) := by
  simp only [List.length_append, List.length_cons]; omega
theorem wrap_mid (pre : List Rg) (x : Rg) (h : pre.length < 4611686018427387904) : wrap64 ((pre.length : Int) + 1) = ((pre ++ [x]).length : Int) := by
  simp only [List.length_append, List.length_cons, List.length_nil]; unfold wrap64; omega
theorem w64 (n : Int) (h : -9223372036854775808 ≤ n ∧ n ≤ 9223372036854775807) : wrap64 n = n := by unfold wrap64; omega
theorem w32 (n : Int) (h : -2147483648 ≤ n ∧ n ≤ 2147483647) : wrap32 n = n := by unfold wrap32; omega
theorem right_eq (x : Rg) : uniset_right.f x.f0 x.f1 = some (good x) := by
  unfold uniset_right.f good
  by_cases h1 : x.f0 ≥ 0
  · by_cases h2 : x.f0 ≤ x.f1
    · rw [if_pos h1, if_pos h2]; simp [h1, h2]
    · rw [if_pos h1, if_neg h2]; simp [h2]
  · rw [if_neg h1]; simp [show ¬ (0 ≤ x.f0) from h1]

def isG : Option Rg → List Rg → Bool
  | _, [] => true
  | p, x :: xs => good x && (match p with | none => true | some y => decide (y.f1 + 1 < x.f0)) && isG (some x) xs
theorem last_mid (pre : List Rg) (y x : Rg) (suf : List Rg) : rd_T58 ((pre ++ [y]) ++ x :: suf) (((pre ++ [y]).length : Int) - 1) = y := by
  have : ((pre ++ [y]).length : Int) - 1 = pre.length := by simp only [List.length_append, List.length_cons, List.length_nil]; omega
  rw [this, List.append_assoc, List.singleton_append]
  exact rd_mid pre y _

theorem is_l0 : ∀ (suf pre : List Rg), (pre ++ suf).length < 4611686018427387904 → Evt (fun k => uniset_Is.l0 k (pre ++ suf) (pre ++ suf) ((pre ++ suf).length : Int) (pre.length : Int)) (isG pre.getLast? suf)
  | [], pre, hl => by
    refine Evt.succ (fun k => uniset_Is.l0.eq_2 _ _ _ _ _) ?_
    simp only [List.append_nil, Int.lt_irrefl, if_false]
    exact Evt.pure _
  | x :: xs, pre, hl => by
    have hl' : pre.length < 4611686018427387904 := by simp only [List.length_append] at hl; omega
    have ih := is_l0 xs (pre ++ [x]) (by simpa using hl)
    rw [List.append_assoc, List.singleton_append, List.getLast?_concat] at ih
    refine Evt.succ (fun k => uniset_Is.l0.eq_2 _ _ _ _ _) ?_
    simp only [if_pos (len_mid pre x xs), if_pos (Int.natCast_nonneg pre.length), rd_mid, right_eq, Option.bind_some, wrap_mid pre x hl']
    unfold isG
    by_cases hg : good x = true
    · have hb := good_iff.1 hg
      simp only [hg, if_true, Bool.true_and]
      rcases List.eq_nil_or_concat pre with rfl | ⟨pre', y, rfl⟩
      · simpa using ih
      · rw [List.concat_eq_append] at *
        have h0 : ((pre' ++ [y]).length : Int) > 0 := by simp only [List.length_append, List.length_cons, List.length_nil]; omega
        have hw : wrap64 (((pre' ++ [y]).length : Int) - 1) = ((pre' ++ [y]).length : Int) - 1 := w64 _ (by omega)
        have h1 : (0 : Int) ≤ ((pre' ++ [y]).length : Int) - 1 := by omega
        have h2 : ((pre' ++ [y]).length : Int) - 1 < (((pre' ++ [y]) ++ x :: xs).length : Int) := by simp only [List.length_append]; omega
        simp only [if_pos h0, hw, if_pos h1, if_pos h2, last_mid, w32 (x.f0 - 1) (by omega), List.getLast?_concat]
        by_cases hc : x.f0 - 1 ≤ y.f1
        · rw [decide_eq_false (show ¬ (y.f1 + 1 < x.f0) by omega)]
          simp only [if_pos hc, Bool.false_and]
          exact Evt.pure _
        · rw [decide_eq_true (show (y.f1 + 1 < x.f0) by omega)]
          simp only [if_neg hc, Bool.true_and]
          exact ih
    · have hg' : good x = false := by simpa using hg
      simp only [hg', Bool.false_eq_true, if_false, Bool.false_and]
      exact Evt.pure _
theorem Is_ev (l : List Rg) (h : l.length < 4611686018427387904) : Evt (fun k => uniset_Is.f k l) (isG none l) := by
  have := is_l0 l [] (by simpa using h)
  simpa [uniset_Is.f] using this
end Go.Proofs.YtfinjenkgpndlaaGreatDoor.PA

namespace Go.Proofs.YtfinjenkgpndlaaGreatDoor.PA
open Go.RowKit Go.Shelf Go.Proofs.YtfinjenkgpndlaaGreatDoorW.PrintWords Go.Proofs.YtfinjenkgpndlaaGreatDoorW.PrintLast Go.Proofs.YtfinjenkgpndlaaGreatDoorW.PrintMore
set_option linter.unusedVariables false
set_option linter.unusedSimpArgs false

mutual
/-- A node and all under it, from the left on. -/
def preN : Nd → List Nd
  | ⟨a, b, c, d, ks⟩ => ⟨a, b, c, d, ks⟩ :: preNs ks
def preNs : List Nd → List Nd
  | [] => []
  | x :: xs => preN x ++ preNs xs
end
theorem preN_eq (e : Nd) : preN e = e :: preNs e.f4 := by cases e; rfl
theorem preNs_cons (x : Nd) (xs : List Nd) : preNs (x :: xs) = preN x ++ preNs xs := rfl
theorem preNs_append : ∀ (xs ys : List Nd), preNs (xs ++ ys) = preNs xs ++ preNs ys
  | [], ys => rfl
  | x :: xs, ys => by rw [List.cons_append, preNs_cons, preNs_cons, preNs_append xs ys, List.append_assoc]
theorem nd_ind {P : Nd → Prop} (h : ∀ e : Nd, (∀ k ∈ e.f4, P k) → P e) : ∀ e, P e := by
  intro e
  refine S26.rec (motive_1 := P) (motive_2 := fun l => ∀ k ∈ l, P k) ?_ ?_ ?_ e
  · intro a b c d ks ih; exact h _ ih
  · intro k hk; cases hk
  · intro x xs hx hxs k hk
    rcases List.mem_cons.1 hk with rfl | hk
    · exact hx
    · exact hxs k hk
theorem pre_self (e : Nd) : e ∈ preN e := by rw [preN_eq]; exact List.mem_cons_self
theorem mem_preNs {x : Nd} : ∀ {l : List Nd}, x ∈ preNs l ↔ ∃ k ∈ l, x ∈ preN k
  | [] => by simp [preNs]
  | y :: ys => by
    rw [preNs_cons, List.mem_append, mem_preNs]
    simp
theorem pre_kid {e k x : Nd} (hk : k ∈ e.f4) (hx : x ∈ preN k) : x ∈ preN e := by
  rw [preN_eq]
  exact List.mem_cons_of_mem _ (mem_preNs.2 ⟨k, hk, hx⟩)
def kidsK (k : Int) : Nat := if k = 4 ∨ k = 5 then 2 else if k = 6 ∨ k = 7 ∨ k = 8 then 1 else 0
def letB (c : UInt8) : Bool := (97 ≤ c.toNat && c.toNat ≤ 122) || (65 ≤ c.toNat && c.toNat ≤ 90)
def nameB (s : List UInt8) : Bool := match s with
  | [] => false
  | c :: cs => decide (s.length ≤ 20) && letB c && cs.all fun d => letB d || (48 ≤ d.toNat && d.toNat ≤ 57)
def plainB (e : Nd) : Bool := decide (1 ≤ e.f0) && decide (e.f0 ≤ 8) && decide (e.f4.length = kidsK e.f0) && (if e.f0 = 1 then decide (e.f2.length ≤ 200) && isG none e.f2 else decide (e.f2.length = 0)) && (if e.f0 = 2 then nameB e.f3.data.toList else decide (e.f3.data.toList = []))
def isN (e : Nd) : Bool := decide ((preN e).length ≤ 400) && (preN e).all plainB
def noV (e : Nd) : Bool := (preN e).all fun x => decide (x.f0 ≠ 2)
structure Ok (e : Nd) : Prop where
  plain : ∀ x ∈ preN e, plainB x = true
  novar : ∀ x ∈ preN e, x.f0 ≠ 2
theorem ok_of {e : Nd} (h1 : isN e = true) (h2 : noV e = true) : Ok e := by
  unfold isN at h1
  unfold noV at h2
  simp only [Bool.and_eq_true, List.all_eq_true, decide_eq_true_eq] at h1 h2
  exact ⟨fun x hx => h1.2 x hx, fun x hx => h2 x hx⟩
theorem Ok.kid {e k : Nd} (h : Ok e) (hk : k ∈ e.f4) : Ok k := ⟨fun x hx => h.plain x (pre_kid hk hx), fun x hx => h.novar x (pre_kid hk hx)⟩
theorem plain_parts {e : Nd} (h : plainB e = true) : 1 ≤ e.f0 ∧ e.f0 ≤ 8 ∧ e.f4.length = kidsK e.f0 := by
  unfold plainB at h
  simp only [Bool.and_eq_true, decide_eq_true_eq] at h
  exact ⟨h.1.1.1.1, h.1.1.1.2, h.1.1.2⟩
theorem Ok.form {e : Nd} (h : Ok e) : (e.f0 = 1 ∧ e.f4 = []) ∨ (e.f0 = 3 ∧ e.f4 = []) ∨ (∃ a b, (e.f0 = 4 ∨ e.f0 = 5) ∧ e.f4 = [a, b]) ∨ (∃ a, (e.f0 = 6 ∨ e.f0 = 7 ∨ e.f0 = 8) ∧ e.f4 = [a]) := by
  obtain ⟨h1, h2, h3⟩ := plain_parts (h.plain e (pre_self e))
  have h4 := h.novar e (pre_self e)
  unfold kidsK at h3
  by_cases c1 : e.f0 = 4 ∨ e.f0 = 5
  · rw [if_pos c1] at h3
    obtain ⟨a, b, hab⟩ : ∃ a b, e.f4 = [a, b] := by
      match e.f4, h3 with
      | [a, b], _ => exact ⟨a, b, rfl⟩
    exact .inr (.inr (.inl ⟨a, b, c1, hab⟩))
  · rw [if_neg c1] at h3
    by_cases c2 : e.f0 = 6 ∨ e.f0 = 7 ∨ e.f0 = 8
    · rw [if_pos c2] at h3
      obtain ⟨a, ha⟩ : ∃ a, e.f4 = [a] := by
        match e.f4, h3 with
        | [a], _ => exact ⟨a, rfl⟩
      exact .inr (.inr (.inr ⟨a, c2, ha⟩))
    · rw [if_neg c2] at h3
      have h5 := List.eq_nil_of_length_eq_zero h3
      rcases (show e.f0 = 1 ∨ e.f0 = 3 by omega) with c | c
      · exact .inl ⟨c, h5⟩
      · exact .inr (.inl ⟨c, h5⟩)
theorem isN_iff {e : Nd} : isN e = true ↔ (preN e).length ≤ 400 ∧ ∀ x ∈ preN e, plainB x = true := by
  unfold isN
  simp
theorem noV_iff {e : Nd} : noV e = true ↔ ∀ x ∈ preN e, x.f0 ≠ 2 := by
  unfold noV
  simp
theorem pre_two (k : Int) (a b : Nd) : preN (nd2 k a b) = nd2 k a b :: (preN a ++ preN b) := by
  rw [preN_eq]
  show nd2 k a b :: (preN a ++ (preN b ++ [])) = _
  rw [List.append_nil]
theorem pre_nil (k : Int) : preN (nd0 k) = [nd0 k] := rfl
theorem isN_two {k : Int} {a b : Nd} (hk : k = 4 ∨ k = 5) (h : isN a = true) (h2 : isN b = true) (hl : (preN a).length + (preN b).length ≤ 399) : isN (nd2 k a b) = true := by
  rw [isN_iff, pre_two]
  refine ⟨by simp; omega, fun x hx => ?_⟩
  rcases List.mem_cons.1 hx with rfl | hx
  · rcases hk with rfl | rfl <;> rfl
  · rcases List.mem_append.1 hx with hx | hx
    · exact (isN_iff.1 h).2 x hx
    · exact (isN_iff.1 h2).2 x hx
theorem noV_two {k : Int} {a b : Nd} (hk : k ≠ 2) (h : noV a = true) (h2 : noV b = true) : noV (nd2 k a b) = true := by
  rw [noV_iff, pre_two]
  intro x hx
  rcases List.mem_cons.1 hx with rfl | hx
  · exact hk
  · rcases List.mem_append.1 hx with hx | hx
    · exact noV_iff.1 h x hx
    · exact noV_iff.1 h2 x hx
end Go.Proofs.YtfinjenkgpndlaaGreatDoor.PA

namespace Go.Proofs.YtfinjenkgpndlaaGreatDoor.PA
open Go.RowKit Go.Shelf Go.Proofs.YtfinjenkgpndlaaGreatDoorW.PrintWords Go.Proofs.YtfinjenkgpndlaaGreatDoorW.PrintLast Go.Proofs.YtfinjenkgpndlaaGreatDoorW.PrintMore
set_option linter.unusedVariables false
set_option linter.unusedSimpArgs false

def orL (a b : List Bool) : List Bool := List.zipWith (fun p q => p || q) a b
def oneL (x : List Int) (s : List Rg) (bs : List Bool) : List Bool := false :: (List.range x.length).map fun j => bs.getD j false && hasL s (x.getD j 0)
def noneL (x : List Int) : List Bool := List.replicate (x.length + 1) false
def iterL (f : List Bool → List Bool) : Nat → List Bool → List Bool
  | 0, b => b
  | n + 1, b => iterL f n (orL b (f b))
mutual
def mtN (x : List Int) : Nd → List Bool → List Bool
  | ⟨k, _, s, _, ks⟩, bs =>
    if k = 1 then oneL x s bs
    else if k = 3 then bs
    else if k = 4 then mtCat x ks bs
    else if k = 5 then mtAlt x ks bs
    else if k = 6 then iterL (mtHead x ks) x.length bs
    else if k = 7 then iterL (mtHead x ks) x.length (mtHead x ks bs)
    else if k = 8 then orL bs (mtHead x ks bs)
    else noneL x
def mtHead (x : List Int) : List Nd → List Bool → List Bool
  | [], bs => noneL x
  | e :: es, bs => mtN x e bs
def mtCat (x : List Int) : List Nd → List Bool → List Bool
  | [], bs => bs
  | e :: es, bs => mtCat x es (mtN x e bs)
def mtAlt (x : List Int) : List Nd → List Bool → List Bool
  | [], bs => noneL x
  | e :: es, bs => orL (mtN x e bs) (mtAlt x es bs)
end
def on (bs : List Bool) (j : Nat) : Prop := bs.getD j false = true
theorem on_lt {bs : List Bool} {j : Nat} (h : on bs j) : j < bs.length := by
  unfold on at h
  rcases Nat.lt_or_ge j bs.length with h1 | h1
  · exact h1
  · rw [List.getD_eq_getElem?_getD, List.getElem?_eq_none h1] at h; cases h
theorem on_or {a b : List Bool} (h : a.length = b.length) (j : Nat) : on (orL a b) j ↔ on a j ∨ on b j := by
  unfold on orL
  simp only [List.getD_eq_getElem?_getD, List.getElem?_zipWith]
  rcases Nat.lt_or_ge j a.length with h1 | h1
  · rw [List.getElem?_eq_getElem h1, List.getElem?_eq_getElem (by omega)]; simp
  · rw [List.getElem?_eq_none h1, List.getElem?_eq_none (by omega)]; simp
theorem or_len {a b : List Bool} (h : a.length = b.length) : (orL a b).length = a.length := by unfold orL; simp; omega
theorem on_none (x : List Int) (j : Nat) : ¬ on (noneL x) j := by
  unfold on noneL
  intro h
  rw [List.getD_eq_getElem?_getD, List.getElem?_replicate] at h
  split at h <;> cases h
theorem on_one (x : List Int) (s : List Rg) (bs : List Bool) (j : Nat) : on (oneL x s bs) j ↔ ∃ i, on bs i ∧ j = i + 1 ∧ ∃ r, x[i]? = some r ∧ hasL s r = true := by
  unfold on oneL
  cases j with
  | zero => simp
  | succ j =>
    rw [List.getD_cons_succ, List.getD_eq_getElem?_getD, List.getElem?_map]
    rcases Nat.lt_or_ge j x.length with h1 | h1
    · rw [List.getElem?_range h1]
      simp only [Option.map_some, Option.getD_some, Bool.and_eq_true]
      rw [show x.getD j 0 = x[j] by simp [h1]]
      constructor
      · rintro ⟨h2, h3⟩; exact ⟨j, h2, rfl, _, List.getElem?_eq_getElem h1, h3⟩
      · rintro ⟨i, h2, h3, r, h4, h5⟩
        obtain rfl : j = i := by omega
        rw [List.getElem?_eq_getElem h1] at h4
        cases h4
        exact ⟨h2, h5⟩
    · rw [List.getElem?_eq_none (by simpa using h1)]
      simp only [Option.map_none, Option.getD_none]
      constructor
      · intro h; cases h
      · rintro ⟨i, h2, h3, r, h4, h5⟩
        have := (List.getElem?_eq_some_iff.1 h4).1
        omega
def Leads (x : List Int) (e : Nd) (f : List Bool → List Bool) : Prop := ∀ bs, bs.length = x.length + 1 → (f bs).length = x.length + 1 ∧ ∀ j, on (f bs) j ↔ ∃ i, on bs i ∧ Mt x e i j
theorem iter_len {x : List Int} {f : List Bool → List Bool} {a : Nd} (hf : Leads x a f) : ∀ n bs, bs.length = x.length + 1 → (iterL f n bs).length = x.length + 1
  | 0, bs, h => h
  | n + 1, bs, h => iter_len hf n _ (by rw [or_len (by rw [h, (hf bs h).1]), h])
theorem iter_mono {x : List Int} {f : List Bool → List Bool} {a : Nd} (hf : Leads x a f) : ∀ n bs, bs.length = x.length + 1 → ∀ j, on bs j → on (iterL f n bs) j
  | 0, bs, h, j, hj => hj
  | n + 1, bs, h, j, hj => iter_mono hf n _ (by rw [or_len (by rw [h, (hf bs h).1]), h]) j ((on_or (by rw [h, (hf bs h).1]) j).2 (.inl hj))
theorem iter_star {x : List Int} {f : List Bool → List Bool} {a e : Nd} (hf : Leads x a f) (hk : e.f0 = 6) (hs : e.f4 = [a]) : ∀ n bs, bs.length = x.length + 1 → ∀ j, on (iterL f n bs) j → ∃ i, on bs i ∧ Mt x e i j
  | 0, bs, h, j, hj => ⟨j, hj, .star0 e j hk (by have := on_lt (show on bs j from hj); omega)⟩
  | n + 1, bs, h, j, hj => by
    obtain ⟨m, h1, h2⟩ := iter_star hf hk hs n _ (by rw [or_len (by rw [h, (hf bs h).1]), h]) j hj
    rcases (on_or (by rw [h, (hf bs h).1]) m).1 h1 with h3 | h3
    · exact ⟨m, h3, h2⟩
    · obtain ⟨i, h4, h5⟩ := ((hf bs h).2 m).1 h3
      exact ⟨i, h4, .starS e a i m j hk hs h5 h2⟩
theorem star_iter {x : List Int} {f : List Bool → List Bool} {a e : Nd} (hf : Leads x a f) (hk : e.f0 = 6) (hs : e.f4 = [a]) : ∀ n bs, bs.length = x.length + 1 → ∀ i j, on bs i → Mt x e i j → j ≤ i + n → on (iterL f n bs) j := by
  intro n
  induction n with
  | zero =>
    intro bs h i j hi hm hj
    have := hm.le
    obtain rfl : i = j := by omega
    exact hi
  | succ n ih =>
    intro bs h i j hi hm hj
    have hl : (orL bs (f bs)).length = x.length + 1 := by rw [or_len (by rw [h, (hf bs h).1]), h]
    have key : ∀ e' i j, Mt x e' i j → e' = e → on bs i → j ≤ i + (n + 1) → on (iterL f n (orL bs (f bs))) j := by
      intro e' i j hm
      induction hm with
      | star0 e' i hk' hi' =>
        rintro rfl hi _
        exact iter_mono hf n _ hl i ((on_or (by rw [h, (hf bs h).1]) i).2 (.inl hi))
      | starS e' a' i m j hk' hs' h1 h2 _ i2 =>
        rintro rfl hi hj
        rw [hs] at hs'; simp only [List.cons.injEq, and_true] at hs'; subst hs'
        have h3 := h1.le
        rcases Nat.lt_or_ge i m with h4 | h4
        · exact ih _ hl m j ((on_or (by rw [h, (hf bs h).1]) m).2 (.inr (((hf bs h).2 m).2 ⟨i, hi, h1⟩))) h2 (by omega)
        · obtain rfl : i = m := by omega
          exact i2 rfl hi hj
      | _ => rintro rfl; omega
    exact key e i j hm rfl hi hj
theorem iter_all {x : List Int} {f : List Bool → List Bool} {a e : Nd} (hf : Leads x a f) (hk : e.f0 = 6) (hs : e.f4 = [a]) : Leads x e (iterL f x.length) := fun bs h => by
  refine ⟨iter_len hf _ bs h, fun j => ⟨iter_star hf hk hs _ bs h j, ?_⟩⟩
  rintro ⟨i, h1, h2⟩
  exact star_iter hf hk hs _ bs h i j h1 h2 (by have := h2.le; omega)
theorem mtN_leads (x : List Int) : ∀ e : Nd, Ok e → Leads x e (mtN x e) := by
  refine nd_ind fun e ih hok bs h => ?_
  have hform := hok.form
  obtain ⟨k, p, s, nm, ks⟩ := e
  dsimp only at hform ih
  rcases hform with ⟨hk, hs⟩ | ⟨hk, hs⟩ | ⟨a, b, hk, hs⟩ | ⟨a, hk, hs⟩
  · subst hk hs
    unfold mtN
    rw [if_pos rfl]
    refine ⟨by simp [oneL], fun j => ?_⟩
    rw [on_one]
    constructor
    · rintro ⟨i, h1, rfl, h2⟩; exact ⟨i, h1, (mt_set rfl).2 ⟨rfl, h2⟩⟩
    · rintro ⟨i, h1, h2⟩; obtain ⟨h3, h4⟩ := (mt_set rfl).1 h2; exact ⟨i, h1, h3, h4⟩
  · subst hk hs
    unfold mtN
    rw [if_neg (by decide), if_pos rfl]
    refine ⟨h, fun j => ⟨fun hj => ⟨j, hj, (mt_none rfl).2 ⟨rfl, by have := on_lt hj; omega⟩⟩, ?_⟩⟩
    rintro ⟨i, h1, h2⟩
    obtain ⟨rfl, _⟩ := (mt_none rfl).1 h2
    exact h1
  · subst hs
    have ha := ih a (by simp) (hok.kid (by simp))
    have hb := ih b (by simp) (hok.kid (by simp))
    rcases hk with hk | hk
    · subst hk
      unfold mtN
      rw [if_neg (by decide), if_neg (by decide), if_pos rfl]
      unfold mtCat mtCat mtCat
      obtain ⟨l1, r1⟩ := ha bs h
      obtain ⟨l2, r2⟩ := hb _ l1
      refine ⟨l2, fun j => ?_⟩
      rw [r2]
      constructor
      · rintro ⟨m, h1, h2⟩
        obtain ⟨i, h3, h4⟩ := (r1 m).1 h1
        exact ⟨i, h3, (mt_cat rfl rfl).2 ⟨m, h4, h2⟩⟩
      · rintro ⟨i, h1, h2⟩
        obtain ⟨m, h3, h4⟩ := (mt_cat (a := a) (b := b) rfl rfl).1 h2
        exact ⟨m, (r1 m).2 ⟨i, h1, h3⟩, h4⟩
    · subst hk
      unfold mtN
      rw [if_neg (by decide), if_neg (by decide), if_neg (by decide), if_pos rfl]
      unfold mtAlt mtAlt mtAlt
      obtain ⟨l1, r1⟩ := ha bs h
      obtain ⟨l2, r2⟩ := hb bs h
      have ln : (noneL x).length = x.length + 1 := by simp [noneL]
      have lo : (orL (mtN x b bs) (noneL x)).length = x.length + 1 := by rw [or_len (by rw [l2, ln]), l2]
      refine ⟨by rw [or_len (by rw [l1, lo]), l1], fun j => ?_⟩
      rw [on_or (by rw [l1, lo]), on_or (by rw [l2, ln]), r1, r2]
      constructor
      · rintro (⟨i, h1, h2⟩ | ⟨i, h1, h2⟩ | h1)
        · exact ⟨i, h1, (mt_alt rfl rfl).2 (.inl h2)⟩
        · exact ⟨i, h1, (mt_alt rfl rfl).2 (.inr h2)⟩
        · exact absurd h1 (on_none x j)
      · rintro ⟨i, h1, h2⟩
        rcases (mt_alt (a := a) (b := b) rfl rfl).1 h2 with h3 | h3
        · exact .inl ⟨i, h1, h3⟩
        · exact .inr (.inl ⟨i, h1, h3⟩)
  · subst hs
    have ha := ih a (by simp) (hok.kid (by simp))
    have hh : mtHead x [a] = mtN x a := by funext b; rfl
    obtain ⟨l1, r1⟩ := ha bs h
    rcases hk with hk | hk | hk
    · subst hk
      unfold mtN
      rw [if_neg (by decide), if_neg (by decide), if_neg (by decide), if_neg (by decide), if_pos rfl, hh]
      exact iter_all ha rfl rfl bs h
    · subst hk
      unfold mtN
      rw [if_neg (by decide), if_neg (by decide), if_neg (by decide), if_neg (by decide), if_neg (by decide), if_pos rfl, hh]
      obtain ⟨l2, r2⟩ := iter_all (e := oneN 6 a) ha rfl rfl _ l1
      refine ⟨l2, fun j => ?_⟩
      rw [r2]
      constructor
      · rintro ⟨m, h1, h2⟩
        obtain ⟨i, h3, h4⟩ := (r1 m).1 h1
        exact ⟨i, h3, (mt_plus rfl rfl).2 ⟨m, h4, h2⟩⟩
      · rintro ⟨i, h1, h2⟩
        obtain ⟨m, h3, h4⟩ := (mt_plus (a := a) rfl rfl).1 h2
        exact ⟨m, (r1 m).2 ⟨i, h1, h3⟩, h4⟩
    · subst hk
      unfold mtN
      rw [if_neg (by decide), if_neg (by decide), if_neg (by decide), if_neg (by decide), if_neg (by decide), if_neg (by decide), if_pos rfl, hh]
      refine ⟨by rw [or_len (by rw [h, l1]), h], fun j => ?_⟩
      rw [on_or (by rw [h, l1]), r1]
      constructor
      · rintro (h1 | ⟨i, h1, h2⟩)
        · exact ⟨j, h1, (mt_opt rfl rfl).2 (.inl ⟨rfl, by have := on_lt h1; omega⟩)⟩
        · exact ⟨i, h1, (mt_opt rfl rfl).2 (.inr h2)⟩
      · rintro ⟨i, h1, h2⟩
        rcases (mt_opt (a := a) rfl rfl).1 h2 with ⟨rfl, _⟩ | h3
        · exact .inl h1
        · exact .inr ⟨i, h1, h3⟩
def initL (n i : Nat) : List Bool := (List.range (n + 1)).map fun j => j == i
theorem init_len (n i : Nat) : (initL n i).length = n + 1 := by simp [initL]
theorem on_init {n i : Nat} (hi : i ≤ n) (j : Nat) : on (initL n i) j ↔ j = i := by
  unfold on initL
  rw [List.getD_eq_getElem?_getD, List.getElem?_map]
  rcases Nat.lt_or_ge j (n + 1) with h | h
  · rw [List.getElem?_range h]; simp
  · rw [List.getElem?_eq_none (by simpa using h)]
    simp
    omega
def mtB (x : List Int) (e : Nd) (i j : Nat) : Bool := (mtN x e (initL x.length i)).getD j false
theorem mtB_iff {x : List Int} {e : Nd} (h : Ok e) {i j : Nat} (hi : i ≤ x.length) : mtB x e i j = true ↔ Mt x e i j := by
  have := ((mtN_leads x e h) (initL x.length i) (init_len _ _)).2 j
  unfold mtB
  rw [show ((mtN x e (initL x.length i)).getD j false = true) = on (mtN x e (initL x.length i)) j from rfl, this]
  constructor
  · rintro ⟨k, h1, h2⟩; rwa [(on_init hi k).1 h1] at h2
  · intro h1; exact ⟨i, (on_init hi i).2 rfl, h1⟩
def okB (e : Nd) : Bool := isN e && noV e
theorem okB_ok {e : Nd} (h : okB e = true) : Ok e := by
  unfold okB at h
  rw [Bool.and_eq_true] at h
  exact ok_of h.1 h.2
def endsM (e : Nd) (x : List Int) (i : Int) : List Int := if i < 0 ∨ (x.length : Int) < i ∨ okB e = false then [] else ((List.range (x.length + 1)).filter fun j => mtB x e i.toNat j).map fun (j : Nat) => (j : Int)
def beginsM (e : Nd) (x : List Int) (i : Int) : List Int := if i < 0 ∨ (x.length : Int) < i ∨ okB e = false then [] else ((List.range (x.length + 1)).filter fun j => mtB x e j i.toNat).map fun (j : Nat) => (j : Int)
def allB (e : Nd) (x : List Int) : Bool := okB e && mtB x e 0 x.length
theorem allB_iff {e : Nd} {x : List Int} (h : okB e = true) : allB e x = true ↔ AllM x e := by
  unfold allB AllM
  rw [h, Bool.true_and]
  exact mtB_iff (okB_ok h) (Nat.zero_le _)
end Go.Proofs.YtfinjenkgpndlaaGreatDoor.PA

namespace Go.Proofs.YtfinjenkgpndlaaGreatDoor.PA
open Go.RowKit Go.Shelf Go.Proofs.YtfinjenkgpndlaaGreatDoorW.PrintWords Go.Proofs.YtfinjenkgpndlaaGreatDoorW.PrintLast Go.Proofs.YtfinjenkgpndlaaGreatDoorW.PrintMore
set_option linter.unusedVariables false
set_option linter.unusedSimpArgs false

def Mv (x : List Int) (back : Bool) (e : Nd) (i j : Nat) : Prop := if back = true then Mt x e j i else Mt x e i j
theorem Mv.le {x : List Int} {back : Bool} {e : Nd} {i j : Nat} (h : Mv x back e i j) : i ≤ x.length ∧ j ≤ x.length := by
  cases back
  · have := Mt.le h; omega
  · have := Mt.le (show Mt x e j i from h); omega
structure LeadsTo (x : List Int) (back : Bool) (e : Nd) (bs cs : List Bool) : Prop where
  len : cs.length = x.length + 1
  iff : ∀ j, on cs j ↔ ∃ i, on bs i ∧ Mv x back e i j
section
variable {x : List Int} {back : Bool} {e a b : Nd} {bs cs ds : List Bool}
theorem leads_none (hk : e.f0 = 3) (hl : bs.length = x.length + 1) : LeadsTo x back e bs bs := ⟨hl, fun j => by
  constructor
  · intro h
    have := on_lt h
    refine ⟨j, h, ?_⟩
    cases back
    · exact (mt_none hk).2 ⟨rfl, by omega⟩
    · exact (mt_none hk).2 ⟨rfl, by omega⟩
  · rintro ⟨i, h1, h2⟩
    cases back
    · obtain ⟨rfl, _⟩ := (mt_none hk).1 h2; exact h1
    · obtain ⟨rfl, _⟩ := (mt_none hk).1 h2; exact h1⟩
def fstN (back : Bool) (a b : Nd) : Nd := if back = true then b else a
theorem leads_cat (hk : e.f0 = 4) (hs : e.f4 = [a, b]) (h1 : LeadsTo x back (fstN back a b) bs cs) (h2 : LeadsTo x back (fstN back b a) cs ds) : LeadsTo x back e bs ds := ⟨h2.len, fun j => by
  rw [h2.iff]
  constructor
  · rintro ⟨m, h3, h4⟩
    obtain ⟨i, h5, h6⟩ := (h1.iff m).1 h3
    refine ⟨i, h5, ?_⟩
    cases back
    · exact (mt_cat hk hs).2 ⟨m, h6, h4⟩
    · exact (mt_cat hk hs).2 ⟨m, h4, h6⟩
  · rintro ⟨i, h3, h4⟩
    cases back
    · obtain ⟨m, h5, h6⟩ := (mt_cat hk hs).1 h4
      exact ⟨m, (h1.iff m).2 ⟨i, h3, h5⟩, h6⟩
    · obtain ⟨m, h5, h6⟩ := (mt_cat hk hs).1 h4
      exact ⟨m, (h1.iff m).2 ⟨i, h3, h6⟩, h5⟩⟩
theorem leads_alt (hk : e.f0 = 5) (hs : e.f4 = [a, b]) (h1 : LeadsTo x back a bs cs) (h2 : LeadsTo x back b bs ds) : LeadsTo x back e bs (orL cs ds) := ⟨by rw [or_len (by rw [h1.len, h2.len]), h1.len], fun j => by
  rw [on_or (by rw [h1.len, h2.len]), h1.iff, h2.iff]
  constructor
  · rintro (⟨i, h3, h4⟩ | ⟨i, h3, h4⟩)
    · refine ⟨i, h3, ?_⟩
      cases back
      · exact (mt_alt hk hs).2 (.inl h4)
      · exact (mt_alt hk hs).2 (.inl h4)
    · refine ⟨i, h3, ?_⟩
      cases back
      · exact (mt_alt hk hs).2 (.inr h4)
      · exact (mt_alt hk hs).2 (.inr h4)
  · rintro ⟨i, h3, h4⟩
    cases back
    · rcases (mt_alt hk hs).1 h4 with h5 | h5
      · exact .inl ⟨i, h3, h5⟩
      · exact .inr ⟨i, h3, h5⟩
    · rcases (mt_alt hk hs).1 h4 with h5 | h5
      · exact .inl ⟨i, h3, h5⟩
      · exact .inr ⟨i, h3, h5⟩⟩
theorem leads_opt (hk : e.f0 = 8) (hs : e.f4 = [a]) (hl : bs.length = x.length + 1) (h1 : LeadsTo x back a bs cs) : LeadsTo x back e bs (orL bs cs) := ⟨by rw [or_len (by rw [h1.len, hl]), hl], fun j => by
  rw [on_or (by rw [h1.len, hl]), h1.iff]
  constructor
  · rintro (h3 | ⟨i, h3, h4⟩)
    · have := on_lt h3
      refine ⟨j, h3, ?_⟩
      cases back
      · exact (mt_opt hk hs).2 (.inl ⟨rfl, by omega⟩)
      · exact (mt_opt hk hs).2 (.inl ⟨rfl, by omega⟩)
    · refine ⟨i, h3, ?_⟩
      cases back
      · exact (mt_opt hk hs).2 (.inr h4)
      · exact (mt_opt hk hs).2 (.inr h4)
  · rintro ⟨i, h3, h4⟩
    cases back
    · rcases (mt_opt hk hs).1 h4 with ⟨rfl, _⟩ | h5
      · exact .inl h3
      · exact .inr ⟨i, h3, h5⟩
    · rcases (mt_opt hk hs).1 h4 with ⟨rfl, _⟩ | h5
      · exact .inl h3
      · exact .inr ⟨i, h3, h5⟩⟩
theorem mv_snoc (hk : e.f0 = 6) (hs : e.f4 = [a]) {i j k : Nat} (h1 : Mv x back e i j) (h2 : Mv x back a j k) : Mv x back e i k := by
  cases back
  · exact star_trans hk h1 (.starS e a j k k hk hs h2 (.star0 e k hk (Mt.le h2).2))
  · exact Mt.starS e a k j i hk hs h2 h1
theorem mv_closed (hk : e.f0 = 6) (hs : e.f4 = [a]) {S : Nat → Prop} (hS : ∀ i j, S i → Mv x back a i j → S j) : ∀ i j, S i → Mv x back e i j → S j := by
  intro i j hi h
  cases back
  · have key : ∀ e' i j, Mt x e' i j → e' = e → S i → S j := by
      intro e' i j hm
      induction hm with
      | star0 e' i hk' hi' => intro _ h; exact h
      | starS e' a' i m j hk' hs' h1 h2 _ i2 =>
        rintro rfl hi
        rw [hs] at hs'; simp only [List.cons.injEq, and_true] at hs'; subst hs'
        exact i2 rfl (hS i m hi h1)
      | _ => rintro rfl; omega
    exact key e i j h rfl hi
  · have key : ∀ e' i j, Mt x e' i j → e' = e → S j → S i := by
      intro e' i j hm
      induction hm with
      | star0 e' i hk' hi' => intro _ h; exact h
      | starS e' a' i m j hk' hs' h1 h2 _ i2 =>
        rintro rfl hj
        rw [hs] at hs'; simp only [List.cons.injEq, and_true] at hs'; subst hs'
        exact hS m i (i2 rfl hj) h1
      | _ => rintro rfl; omega
    exact key e j i h rfl hi
structure Soon (x : List Int) (back : Bool) (e : Nd) (bs cs : List Bool) : Prop where
  len : cs.length = x.length + 1
  has : ∀ j, on bs j → on cs j
  sound : ∀ j, on cs j → ∃ i, on bs i ∧ Mv x back e i j
theorem Soon.start (hk : e.f0 = 6) (hl : bs.length = x.length + 1) : Soon x back e bs bs := ⟨hl, fun _ h => h, fun j h => ⟨j, h, by
  have := on_lt h
  cases back
  · exact .star0 e j hk (by omega)
  · exact Mt.star0 e j hk (by omega)⟩⟩
theorem Soon.more (hk : e.f0 = 6) (hs : e.f4 = [a]) (h : Soon x back e bs cs) (h1 : LeadsTo x back a cs ds) : Soon x back e bs (orL cs ds) := by
  have hl : cs.length = ds.length := by rw [h.len, h1.len]
  refine ⟨by rw [or_len hl, h.len], fun j hj => (on_or hl j).2 (.inl (h.has j hj)), fun j hj => ?_⟩
  rcases (on_or hl j).1 hj with h2 | h2
  · exact h.sound j h2
  · obtain ⟨m, h3, h4⟩ := (h1.iff j).1 h2
    obtain ⟨i, h5, h6⟩ := h.sound m h3
    exact ⟨i, h5, mv_snoc hk hs h6 h4⟩
theorem Soon.done (hk : e.f0 = 6) (hs : e.f4 = [a]) (h : Soon x back e bs cs) (h1 : LeadsTo x back a cs ds) (he : orL cs ds = cs) : LeadsTo x back e bs cs := by
  have hl : cs.length = ds.length := by rw [h.len, h1.len]
  refine ⟨h.len, fun j => ⟨h.sound j, ?_⟩⟩
  rintro ⟨i, h2, h3⟩
  refine mv_closed hk hs (S := on cs) (fun p q hp hq => ?_) i j (h.has i h2) h3
  rw [← he]
  exact (on_or hl q).2 (.inr ((h1.iff q).2 ⟨p, hp, hq⟩))
def offs (cs : List Bool) : Nat := (cs.filter fun b => !b).length
theorem offs_lt : ∀ (cs ds : List Bool), cs.length = ds.length → orL cs ds ≠ cs → offs (orL cs ds) < offs cs
  | [], ds, hl, h => absurd (by unfold orL; rfl) h
  | c :: cs, [], hl, h => by simp at hl
  | c :: cs, d :: ds, hl, h => by
    have hl' : cs.length = ds.length := by simpa using hl
    have e : orL (c :: cs) (d :: ds) = (c || d) :: orL cs ds := rfl
    rw [e] at h ⊢
    have hle : offs (orL cs ds) ≤ offs cs := by
      by_cases h2 : orL cs ds = cs
      · rw [h2]; exact Nat.le_refl _
      · exact Nat.le_of_lt (offs_lt cs ds hl' h2)
    by_cases h2 : orL cs ds = cs
    · rw [h2] at h ⊢
      have h3 : (c || d) ≠ c := fun e => h (by rw [e])
      cases c <;> cases d <;> simp_all [offs]
    · have := offs_lt cs ds hl' h2
      cases c <;> cases d <;> simp_all [offs] <;> omega
theorem leads_plus (hk : e.f0 = 7) (hs : e.f4 = [a]) (h1 : LeadsTo x back a bs cs) (h2 : LeadsTo x back (oneN 6 a) cs ds) : LeadsTo x back e bs ds := ⟨h2.len, fun j => by
  rw [h2.iff]
  constructor
  · rintro ⟨m, h3, h4⟩
    obtain ⟨i, h5, h6⟩ := (h1.iff m).1 h3
    refine ⟨i, h5, ?_⟩
    cases back
    · exact (mt_plus hk hs).2 ⟨m, h6, h4⟩
    · have key : ∀ q p, Mt x (oneN 6 a) q p → (∃ m', Mt x a p m' ∧ Mt x (oneN 6 a) m' i) → ∃ m', Mt x a q m' ∧ Mt x (oneN 6 a) m' i := by
        intro q p hqp
        refine fun hp => mv_closed (x := x) (back := true) (e := oneN 6 a) (a := a) rfl rfl (S := fun p => ∃ m', Mt x a p m' ∧ Mt x (oneN 6 a) m' i) ?_ p q hp hqp
        rintro p q ⟨m', h7, h8⟩ h9
        exact ⟨p, h9, .starS _ a _ _ _ rfl rfl h7 h8⟩
      have h6' : Mt x a m i := h6
      obtain ⟨m', h7, h8⟩ := key j m h4 ⟨i, h6', .star0 _ _ rfl h6'.le.2⟩
      exact (mt_plus hk hs).2 ⟨m', h7, h8⟩
  · rintro ⟨i, h3, h4⟩
    cases back
    · obtain ⟨m, h5, h6⟩ := (mt_plus hk hs).1 h4
      exact ⟨m, (h1.iff m).2 ⟨i, h3, h5⟩, h6⟩
    · obtain ⟨m, h5, h6⟩ := (mt_plus hk hs).1 h4
      -- j by a to m, m by the star to i: it ends with a kid
      have key : ∀ p, Mt x (oneN 6 a) p i → ∀ q, Mt x a q p → ∃ m', Mt x (oneN 6 a) q m' ∧ Mt x a m' i := by
        intro p hp q hq
        have key2 : ∀ e' p i, Mt x e' p i → e' = oneN 6 a → ∀ q, Mt x a q p → ∃ m', Mt x (oneN 6 a) q m' ∧ Mt x a m' i := by
          intro e' p i hm
          induction hm with
          | star0 e' i hk' hi' => intro _ q hq; exact ⟨q, .star0 _ _ rfl (by have := hq.le; omega), hq⟩
          | starS e' a' i m j hk' hs' h1 h2 _ i2 =>
            rintro rfl q hq
            have e1 : a = a' := by simpa [oneN] using hs'
            subst e1
            obtain ⟨m', h7, h8⟩ := i2 rfl _ h1
            exact ⟨m', .starS _ a _ _ _ rfl rfl hq h7, h8⟩
          | _ => rintro rfl; simp_all [oneN]
        exact key2 _ p i hp rfl q hq
      obtain ⟨m', h7, h8⟩ := key m h6 j h5
      exact ⟨m', (h1.iff m').2 ⟨i, h3, h8⟩, h7⟩⟩
end
def placesL (bs : List Bool) : List Nat := (List.range bs.length).filter fun i => bs.getD i false
theorem mem_places {bs : List Bool} {i : Nat} : i ∈ placesL bs ↔ on bs i := by
  unfold placesL
  rw [List.mem_filter, List.mem_range]
  exact ⟨fun h => h.2, fun h => ⟨on_lt h, h⟩⟩
def stepF (f : Nat → Option Nat) (m : List Bool) (i : Nat) : List Bool := match f i with
  | none => m
  | some j => m.set j true
def marksF (f : Nat → Option Nat) (m : List Bool) (l : List Nat) : List Bool := l.foldl (stepF f) m
theorem step_len (f : Nat → Option Nat) (m : List Bool) (i : Nat) : (stepF f m i).length = m.length := by
  unfold stepF; split <;> simp
theorem marks_len (f : Nat → Option Nat) : ∀ (l : List Nat) (m : List Bool), (marksF f m l).length = m.length
  | [], m => rfl
  | i :: l, m => (marks_len f l (stepF f m i)).trans (step_len f m i)
theorem marks_snoc (f : Nat → Option Nat) (m : List Bool) (l : List Nat) (i : Nat) : marksF f m (l ++ [i]) = stepF f (marksF f m l) i := by simp [marksF]
theorem on_set {m : List Bool} {k j : Nat} (hk : k < m.length) : on (m.set k true) j ↔ on m j ∨ j = k := by
  unfold on
  rw [List.getD_eq_getElem?_getD, List.getD_eq_getElem?_getD, List.getElem?_set]
  by_cases h : k = j
  · subst h; simp [hk]
  · rw [if_neg h]
    constructor
    · exact .inl
    · rintro (h1 | h1)
      · exact h1
      · exact absurd h1.symm h
theorem on_step {f : Nat → Option Nat} {m : List Bool} {i j : Nat} (h : ∀ k, f i = some k → k < m.length) : on (stepF f m i) j ↔ on m j ∨ f i = some j := by
  unfold stepF
  split
  · rename_i e; rw [e]; simp
  · rename_i k e
    rw [on_set (h k e), e]
    constructor
    · rintro (h1 | h1)
      · exact .inl h1
      · exact .inr (by rw [h1])
    · rintro (h1 | h1)
      · exact .inl h1
      · exact .inr (Option.some.inj h1).symm
theorem on_marks {f : Nat → Option Nat} : ∀ (l : List Nat) (m : List Bool) (j : Nat), (∀ i ∈ l, ∀ k, f i = some k → k < m.length) → (on (marksF f m l) j ↔ on m j ∨ ∃ i ∈ l, f i = some j)
  | [], m, j, h => by simp [marksF]
  | i :: l, m, j, h => by
    show on (marksF f (stepF f m i) l) j ↔ _
    rw [on_marks l (stepF f m i) j (fun i' hi k hk => by rw [step_len]; exact h i' (List.mem_cons_of_mem _ hi) k hk), on_step (h i List.mem_cons_self)]
    constructor
    · rintro ((h1 | h1) | ⟨i', h1, h2⟩)
      · exact .inl h1
      · exact .inr ⟨i, List.mem_cons_self, h1⟩
      · exact .inr ⟨i', List.mem_cons_of_mem _ h1, h2⟩
    · rintro (h1 | ⟨i', h1, h2⟩)
      · exact .inl (.inl h1)
      · rcases List.mem_cons.1 h1 with rfl | h1
        · exact .inl (.inr h2)
        · exact .inr ⟨i', h1, h2⟩
theorem on_ext {a b : List Bool} (hl : a.length = b.length) (h : ∀ j, on a j ↔ on b j) : a = b := by
  apply List.ext_getElem hl
  intro j h1 h2
  have e1 := h j
  unfold on at e1
  rw [List.getD_eq_getElem?_getD, List.getD_eq_getElem?_getD, List.getElem?_eq_getElem h1, List.getElem?_eq_getElem h2] at e1
  simp only [Option.getD_some] at e1
  cases hc : a[j] <;> cases hd : b[j] <;> simp_all
theorem marks_or {a b : List Bool} (hl : a.length = b.length) : marksF some a (placesL b) = orL a b := by
  refine on_ext (by rw [marks_len, or_len hl]) fun j => ?_
  rw [on_marks _ _ _ (fun i hi k hk => by cases hk; have := on_lt (mem_places.1 hi); omega), on_or hl]
  constructor
  · rintro (h1 | ⟨i, h1, h2⟩)
    · exact .inl h1
    · cases h2; exact .inr (mem_places.1 h1)
  · rintro (h1 | h1)
    · exact .inl h1
    · exact .inr ⟨j, mem_places.2 h1, rfl⟩
def seeL (x : List Int) (back : Bool) (s : List Rg) (i : Nat) : Option Nat :=
  if back = true then (if i = 0 then none else if hasL s (x.getD (i - 1) 0) = true then some (i - 1) else none)
  else (if i = x.length then none else if hasL s (x.getD i 0) = true then some (i + 1) else none)
theorem see_lt {x : List Int} {back : Bool} {s : List Rg} {i k : Nat} (hi : i ≤ x.length) (h : seeL x back s i = some k) : k < x.length + 1 := by
  unfold seeL at h
  split at h
  · split at h
    · cases h
    · split at h
      · cases h; omega
      · cases h
  · split at h
    · cases h
    · split at h
      · cases h; omega
      · cases h
theorem see_iff {x : List Int} {back : Bool} {e : Nd} (hk : e.f0 = 1) {i j : Nat} (hi : i ≤ x.length) : seeL x back e.f2 i = some j ↔ Mv x back e i j := by
  cases back
  · show (if false = true then _ else _) = some j ↔ Mt x e i j
    rw [if_neg (by decide), mt_set hk]
    by_cases h1 : i = x.length
    · rw [if_pos h1]
      constructor
      · intro h; cases h
      · rintro ⟨_, r, h2, _⟩
        have := (List.getElem?_eq_some_iff.1 h2).1
        omega
    · rw [if_neg h1]
      have h2 : i < x.length := by omega
      have h3 : x.getD i 0 = x[i] := by rw [List.getD_eq_getElem?_getD, List.getElem?_eq_getElem h2]; rfl
      rw [h3]
      constructor
      · intro h
        split at h
        · rename_i h4; cases h; exact ⟨rfl, x[i], List.getElem?_eq_getElem h2, h4⟩
        · cases h
      · rintro ⟨rfl, r, h4, h5⟩
        rw [List.getElem?_eq_getElem h2] at h4
        cases h4
        rw [if_pos h5]
  · show (if true = true then _ else _) = some j ↔ Mt x e j i
    rw [if_pos rfl, mt_set hk]
    by_cases h1 : i = 0
    · rw [if_pos h1]
      constructor
      · intro h; cases h
      · rintro ⟨h2, _⟩; omega
    · rw [if_neg h1]
      have h2 : i - 1 < x.length := by omega
      have h3 : x.getD (i - 1) 0 = x[i - 1] := by rw [List.getD_eq_getElem?_getD, List.getElem?_eq_getElem h2]; rfl
      rw [h3]
      constructor
      · intro h
        split at h
        · rename_i h4; cases h; exact ⟨by omega, x[i - 1], List.getElem?_eq_getElem h2, h4⟩
        · cases h
      · rintro ⟨h4, r, h5, h6⟩
        obtain rfl : j = i - 1 := by omega
        rw [List.getElem?_eq_getElem h2] at h5
        cases h5
        rw [if_pos h6]
theorem leads_set {x : List Int} {back : Bool} {e : Nd} {bs : List Bool} (hk : e.f0 = 1) (hl : bs.length = x.length + 1) : LeadsTo x back e bs (marksF (seeL x back e.f2) (noneL x) (placesL bs)) := by
  have hn : (noneL x).length = x.length + 1 := by simp [noneL]
  have hp : ∀ i ∈ placesL bs, i ≤ x.length := fun i hi => by have := on_lt (mem_places.1 hi); omega
  refine ⟨by rw [marks_len, hn], fun j => ?_⟩
  rw [on_marks _ _ _ (fun i hi k hk' => by rw [hn]; exact see_lt (hp i hi) hk')]
  constructor
  · rintro (h1 | ⟨i, h1, h2⟩)
    · exact absurd h1 (on_none x j)
    · exact ⟨i, mem_places.1 h1, (see_iff hk (hp i h1)).1 h2⟩
  · rintro ⟨i, h1, h2⟩
    exact .inr ⟨i, mem_places.2 h1, (see_iff hk (hp i (mem_places.2 h1))).2 h2⟩
end Go.Proofs.YtfinjenkgpndlaaGreatDoor.PA

namespace Go.Proofs
open Go.Shelf
def Tryz.lays99_ren : Go.Shelf.Ren := ⟨fun | 99 => 140 | 206 => 149 | n => n, fun | 9 => 9 | 4 => 4 | 3 => 3 | n => n, fun | n => n⟩
theorem Tryz.lays99 : Go.Proofs.Lays.n99 Tryz.prog Tryz.lays99_ren := {
  mixed := by kernel_rfl
  f99 := Tryz.func140.trans (congrArg some (by kernel_rfl))
  f206 := Tryz.func149.trans (congrArg some (by kernel_rfl))
  t3 := Tryz.underlying3
  a3 := Tryz.isAgg3
  z3 := Tryz.sizeOf3
  v3 := Tryz.zeroValue3
  t4 := Tryz.underlying4
  a4 := Tryz.isAgg4
  z4 := Tryz.sizeOf4
  v4 := Tryz.zeroValue4
  t9 := Tryz.underlying9
  a9 := Tryz.isAgg9
  z9 := Tryz.sizeOf9
  v9 := Tryz.zeroValue9 }
def Tryz.lays137_ren : Go.Shelf.Ren := ⟨fun | 137 => 143 | 217 => 153 | 266 => 162 | n => n, fun | 9 => 9 | 5 => 5 | 3 => 3 | n => n, fun | n => n⟩
theorem Tryz.lays137 : Go.Proofs.Lays.n137 Tryz.prog Tryz.lays137_ren := {
  mixed := by kernel_rfl
  f137 := Tryz.func143.trans (congrArg some (by kernel_rfl))
  f217 := Tryz.func153.trans (congrArg some (by kernel_rfl))
  f266 := Tryz.func162.trans (congrArg some (by kernel_rfl))
  t3 := Tryz.underlying3
  a3 := Tryz.isAgg3
  z3 := Tryz.sizeOf3
  v3 := Tryz.zeroValue3
  t5 := Tryz.underlying5
  a5 := Tryz.isAgg5
  z5 := Tryz.sizeOf5
  v5 := Tryz.zeroValue5
  t9 := Tryz.underlying9
  a9 := Tryz.isAgg9
  z9 := Tryz.sizeOf9
  v9 := Tryz.zeroValue9 }
def Tryz.lays197_ren : Go.Shelf.Ren := ⟨fun | 197 => 142 | 260 => 152 | n => n, fun | 9 => 9 | 21 => 21 | 3 => 3 | 4 => 4 | 5 => 5 | 105 => 163 | 119 => 185 | 0 => 0 | 46 => 34 | 139 => 188 | 138 => 187 | n => n, fun | 3 => 1 | 4 => 2 | n => n⟩
theorem Tryz.lays197 : Go.Proofs.Lays.n197 Tryz.prog Tryz.lays197_ren := {
  mixed := by kernel_rfl
  f197 := Tryz.func142.trans (congrArg some (by kernel_rfl))
  f260 := Tryz.func152.trans (congrArg some (by kernel_rfl))
  t0 := Tryz.underlying0
  a0 := Tryz.isAgg0
  z0 := Tryz.sizeOf0
  v0 := Tryz.zeroValue0
  t3 := Tryz.underlying3
  a3 := Tryz.isAgg3
  z3 := Tryz.sizeOf3
  v3 := Tryz.zeroValue3
  t4 := Tryz.underlying4
  a4 := Tryz.isAgg4
  z4 := Tryz.sizeOf4
  v4 := Tryz.zeroValue4
  t5 := Tryz.underlying5
  a5 := Tryz.isAgg5
  z5 := Tryz.sizeOf5
  v5 := Tryz.zeroValue5
  t9 := Tryz.underlying9
  a9 := Tryz.isAgg9
  z9 := Tryz.sizeOf9
  v9 := Tryz.zeroValue9
  t21 := Tryz.underlying21
  a21 := Tryz.isAgg21
  z21 := Tryz.sizeOf21
  v21 := Tryz.zeroValue21
  t46 := Tryz.underlying34
  a46 := Tryz.isAgg34
  z46 := Tryz.sizeOf34
  v46 := Tryz.zeroValue34
  t105 := Tryz.underlying163
  a105 := Tryz.isAgg163
  z105 := Tryz.sizeOf163
  v105 := Tryz.zeroValue163
  t119 := Tryz.underlying185
  a119 := Tryz.isAgg185
  z119 := Tryz.sizeOf185
  t138 := Tryz.underlying187
  a138 := Tryz.isAgg187
  z138 := Tryz.sizeOf187
  v138 := Tryz.zeroValue187
  t139 := Tryz.underlying188
  a139 := Tryz.isAgg188
  z139 := Tryz.sizeOf188
  v139 := Tryz.zeroValue188
  g3 := by kernel_rfl
  g4 := by kernel_rfl }
end Go.Proofs

namespace Go.Proofs.YtfinjenkgpndlaaGreatDoor.PA
open Go.RowKit Go.Proofs.YtfinjenkgpndlaaGreatDoorW.PrintWords Go.Proofs.YtfinjenkgpndlaaGreatDoorW.PrintLast Go.Proofs.YtfinjenkgpndlaaGreatDoorW.PrintMore

theorem cell_new {W : World} {cs : Array Value} {t : TypeId} (j : Nat) {v : Value} (h : cs[j]? = some v) : (W.alloc (.cells cs t)).cell? ⟨W.heap.size, j, none⟩ = some v := by
  have e := heap_alloc_new W (.cells cs t)
  unfold World.cell?
  simp only [e]
  simpa using h
theorem cell_old {W : World} {a : Addr} {v : Value} (o : Obj) (h : W.cell? a = some v) : (W.alloc o).cell? a = some v :=
  (World.cell?_of_block (Below.heap_alloc W o a.block (World.block_lt_of_cell? W a h))).trans h
theorem below_a {W w' : World} {o : Obj} (h : Below (W.alloc o).heap.size (W.alloc o) w') : Below W.heap.size W w' :=
  ((Below.refl _ _).alloc (Nat.le_refl _) o).trans (h.mono (by simp))
theorem below_t {a b c : World} (h : Below a.heap.size a b) (k : Below b.heap.size b c) : Below a.heap.size a c := h.trans (k.mono h.size)
theorem cell_b {W w' : World} (hb : Below W.heap.size W w') {a : Addr} {v : Value} (h : W.cell? a = some v) : w'.cell? a = some v := pw_cell_below hb h
theorem cell_lt {W : World} {a : Addr} {v : Value} (h : W.cell? a = some v) : a.block < W.heap.size := World.block_lt_of_cell? W a h
theorem heap_set {W : World} {b : Nat} {cs : Array Value} {t : TypeId} {fr : Nat × Nat} (h : W.heap[b]? = some (.cells cs t fr)) (j : Nat) (v : Value) : (W.setCell ⟨b, j, none⟩ v).heap[b]? = some (.cells (cs.setIfInBounds j v) t fr) := by
  show (W.heap.modify b _)[b]? = _
  rw [Array.getElem?_modify, if_pos rfl, h]
  rfl
theorem add_none (b o j : Nat) : (⟨b, o, none⟩ : Addr).add j = ⟨b, o + j, none⟩ := by unfold Addr.add; split <;> simp_all
theorem C_plain {α : Type} {d : Kd α} {w : World} {A : Option Addr} {n : Nat} {xs : List α} (h : d.C w A n xs) (hn : 0 < n) (hs : 0 < d.sz) : ∃ b off, A = some ⟨b, off, none⟩ ∧ b < w.heap.size := by
  obtain ⟨ad, e, hc⟩ := h.2.2 hn
  have hl : 0 < xs.length := by rw [h.1]; exact hn
  obtain ⟨c, h1, _, h3⟩ := hc 0 _ (List.getElem?_eq_getElem hl)
  have hu := h3 0 _ (List.getElem?_eq_getElem (by omega : 0 < c.length))
  have e0 : ad.add (0 * d.sz + 0) = ad := by simp [Addr.add]
  rw [e0] at hu
  have hsp : ad.spot = none := by
    unfold World.cell? at hu
    cases hh : ad.spot with
    | none => rfl
    | some q => rw [hh] at hu; split at hu <;> simp at hu
  have hb := cell_lt hu
  obtain ⟨b, off, sp⟩ := ad
  dsimp only at hsp hb
  subst hsp
  exact ⟨b, off, e, hb⟩
theorem C_cell {α : Type} {d : Kd α} {w : World} {b off n : Nat} {xs : List α} (h : d.C w (some ⟨b, off, none⟩) n xs) {j : Nat} {p : α} (hp : xs[j]? = some p) : ∃ c, c.length = d.sz ∧ d.K w p c ∧ ∀ i u, c[i]? = some u → w.cell? ⟨b, off + j * d.sz + i, none⟩ = some u := by
  have hn : 0 < n := by rw [← h.1]; exact Nat.lt_of_le_of_lt (Nat.zero_le j) (List.getElem?_eq_some_iff.1 hp).1
  obtain ⟨ad, e, hc⟩ := h.2.2 hn
  cases e
  obtain ⟨c, h1, h2, h3⟩ := hc j p hp
  refine ⟨c, h1, h2, fun i u hi => ?_⟩
  have := h3 i u hi
  rw [add_none, ← Nat.add_assoc] at this
  exact this
end Go.Proofs.YtfinjenkgpndlaaGreatDoor.PA

namespace Go.Proofs.YtfinjenkgpndlaaGreatDoor.PA
open Go.RowKit Go.Shelf Go.Proofs.YtfinjenkgpndlaaGreatDoorW.PrintWords Go.Proofs.YtfinjenkgpndlaaGreatDoorW.PrintLast Go.Proofs.YtfinjenkgpndlaaGreatDoorW.PrintMore
set_option linter.unusedVariables false

def strings_HasPrefix.f (a b : ByteArray) : Option Bool := some (Lib.hasPrefix a.data.toList b.data.toList)
theorem strings_HasPrefix.calls (a b : ByteArray) (r : Bool) (w : World) (h : strings_HasPrefix.f a b = some r) : Calls Tryz.prog 140 #[.string a, .string b] w fun e w' => e = .returned (.bool r) ∧ Below w.heap.size w w' := by
  cases h
  refine (Any.strings_HasPrefix Tryz.lays99 a b w).mono ?_
  rintro e w' ⟨rfl, rfl⟩
  exact ⟨rfl, Below.refl _ _⟩
def strings_IndexByte.f (s : ByteArray) (c : Int) : Option Int := some (Lib.indexByte s.data.toList c.toNat.toUInt8)
theorem strings_IndexByte.calls (s : ByteArray) (c : Int) (r : Int) (w : World) (h : strings_IndexByte.f s c = some r) : Calls Tryz.prog 143 #[.string s, .int .u8 c] w fun e w' => e = .returned (.int .i64 r) ∧ Below w.heap.size w w' := by
  cases h
  refine (Any.strings_IndexByte Tryz.lays137 s c w).mono ?_
  rintro e w' ⟨rfl, rfl⟩
  exact ⟨rfl, Below.refl _ _⟩
def utf8_DecodeRuneInString.f (s : ByteArray) : Option (Int × Int) := match s.data.toList with
  | [] => none
  | x :: _ => if x.toNat < 128 then some ((x.toNat : Int), 1) else none
theorem utf8_DecodeRuneInString.calls (s : ByteArray) (r1 r2 : Int) (w : World) (h : utf8_DecodeRuneInString.f s = some (r1, r2)) : Calls Tryz.prog 142 #[.string s] w fun e w' => e = .returned (.tuple #[.int .i32 r1, .int .i64 r2]) ∧ Below w.heap.size w w' := by
  unfold utf8_DecodeRuneInString.f at h
  split at h
  · cases h
  · rename_i x xs hx
    split at h
    · rename_i hlt
      cases h
      refine (Any.utf8_DecodeRuneInString_ascii Tryz.lays197 s x w (by rw [hx]; rfl) hlt).mono ?_
      rintro e w' ⟨rfl, rfl⟩
      exact ⟨rfl, Below.refl _ _⟩
    · cases h
def lex_name.f (s : ByteArray) : Option (Int × Int × ByteArray × Int × Int) := none
theorem lex_name.calls (s : ByteArray) (r1 r2 : Int) (r3 : ByteArray) (r4 r5 : Int) (w : World) (h : lex_name.f s = some (r1, r2, r3, r4, r5)) : Calls Tryz.prog 114 #[.string s] w fun e w' => e = .returned (.tuple #[.agg #[.int .i64 r1, .int .i64 r2, .string r3, .int .i32 r4], .int .i64 r5]) ∧ Below w.heap.size w w' := by cases h
def lex_num.f (s : ByteArray) : Option (Int × Int × ByteArray × Int × Int) := none
theorem lex_num.calls (s : ByteArray) (r1 r2 : Int) (r3 : ByteArray) (r4 r5 : Int) (w : World) (h : lex_num.f s = some (r1, r2, r3, r4, r5)) : Calls Tryz.prog 116 #[.string s] w fun e w' => e = .returned (.tuple #[.agg #[.int .i64 r1, .int .i64 r2, .string r3, .int .i32 r4], .int .i64 r5]) ∧ Below w.heap.size w w' := by cases h
def lex_ident.f (s : ByteArray) : Option (Int × Int × ByteArray × Int × Int) := none
theorem lex_ident.calls (s : ByteArray) (r1 r2 : Int) (r3 : ByteArray) (r4 r5 : Int) (w : World) (h : lex_ident.f s = some (r1, r2, r3, r4, r5)) : Calls Tryz.prog 118 #[.string s] w fun e w' => e = .returned (.tuple #[.agg #[.int .i64 r1, .int .i64 r2, .string r3, .int .i32 r4], .int .i64 r5]) ∧ Below w.heap.size w w' := by cases h
def lex_word.f (s : ByteArray) : Option (Int × Int × ByteArray × Int × Int) := none
theorem lex_word.calls (s : ByteArray) (r1 r2 : Int) (r3 : ByteArray) (r4 r5 : Int) (w : World) (h : lex_word.f s = some (r1, r2, r3, r4, r5)) : Calls Tryz.prog 119 #[.string s] w fun e w' => e = .returned (.tuple #[.agg #[.int .i64 r1, .int .i64 r2, .string r3, .int .i32 r4], .int .i64 r5]) ∧ Below w.heap.size w w' := by cases h
def lex_prop.f (s : ByteArray) : Option (Int × Int × ByteArray × Int × Int) := none
theorem lex_prop.calls (s : ByteArray) (r1 r2 : Int) (r3 : ByteArray) (r4 r5 : Int) (w : World) (h : lex_prop.f s = some (r1, r2, r3, r4, r5)) : Calls Tryz.prog 121 #[.string s] w fun e w' => e = .returned (.tuple #[.agg #[.int .i64 r1, .int .i64 r2, .string r3, .int .i32 r4], .int .i64 r5]) ∧ Below w.heap.size w w' := by cases h
def lex_escaped.f (s : ByteArray) : Option (Int × Int × ByteArray × Int × Int) := none
theorem lex_escaped.calls (s : ByteArray) (r1 r2 : Int) (r3 : ByteArray) (r4 r5 : Int) (w : World) (h : lex_escaped.f s = some (r1, r2, r3, r4, r5)) : Calls Tryz.prog 141 #[.string s] w fun e w' => e = .returned (.tuple #[.agg #[.int .i64 r1, .int .i64 r2, .string r3, .int .i32 r4], .int .i64 r5]) ∧ Below w.heap.size w w' := by cases h
end Go.Proofs.YtfinjenkgpndlaaGreatDoor.PA

namespace Go.Proofs.YtfinjenkgpndlaaGreatDoor.PA
open Go.RowKit Go.Proofs.YtfinjenkgpndlaaGreatDoorW.PrintWords Go.Proofs.YtfinjenkgpndlaaGreatDoorW.PrintLast Go.Proofs.YtfinjenkgpndlaaGreatDoorW.PrintMore
attribute [local go_sem] max2_int min2_int max_two min_two max_three min_three max_four min_four   -- for this text's walks alone
set_option linter.unusedVariables false
set_option linter.unusedSimpArgs false

def lex_char.f (a0 : ByteArray) : Option (Int × Int × ByteArray × Int × Int) := (strings_HasPrefix.f a0 (⟨#[39, 92, 117, 123]⟩ : ByteArray)).bind fun t102 => (if t102 = true then ((lex_escaped.f a0).bind fun bt103 => (some (bt103.1, bt103.2.1, bt103.2.2.1, bt103.2.2.2.1, bt103.2.2.2.2))) else (if 1 ≤ (a0.size : Int) then ((utf8_DecodeRuneInString.f (a0.extract 1 a0.size)).bind fun bt108 => (if bt108.2 = 0 then (some (0, 0, (⟨#[]⟩ : ByteArray), 0, 0)) else (if bt108.1 = 65533 then (if bt108.2 = 1 then (some (0, 0, (⟨#[]⟩ : ByteArray), 0, 0)) else (if bt108.1 = 10 then (some (0, 0, (⟨#[]⟩ : ByteArray), 0, 0)) else (if bt108.1 = 92 then (some (0, 0, (⟨#[]⟩ : ByteArray), 0, 0)) else (some (4, 0, (⟨#[]⟩ : ByteArray), bt108.1, wrap64 (bt108.2 + 1)))))) else (if bt108.1 = 10 then (some (0, 0, (⟨#[]⟩ : ByteArray), 0, 0)) else (if bt108.1 = 92 then (some (0, 0, (⟨#[]⟩ : ByteArray), 0, 0)) else (some (4, 0, (⟨#[]⟩ : ByteArray), bt108.1, wrap64 (bt108.2 + 1)))))))) else (none)))
set_option maxHeartbeats 8000000 in
set_option maxRecDepth 100000 in
theorem lex_char.calls (a0 : ByteArray) (r1 : Int) (r2 : Int) (r3 : ByteArray) (r4 : Int) (r5 : Int) (w : World) (h : lex_char.f a0 = some (r1, r2, r3, r4, r5)) :
  Calls Tryz.prog 120 #[.string a0] w fun e w' => e = .returned (.tuple #[.agg #[.int .i64 r1, .int .i64 r2, .string r3, .int .i32 r4], .int .i64 r5]) ∧ Below w.heap.size w w' := by
 have hu77 := Tryz.underlying77
 have HB := Aside0.mk (Below.refl w.heap.size w)
 have H : ((strings_HasPrefix.f a0 (⟨#[39, 92, 117, 123]⟩ : ByteArray)).bind fun t102 => (if t102 = true then ((lex_escaped.f a0).bind fun bt103 => (some (bt103.1, bt103.2.1, bt103.2.2.1, bt103.2.2.2.1, bt103.2.2.2.2))) else (if 1 ≤ (a0.size : Int) then ((utf8_DecodeRuneInString.f (a0.extract 1 a0.size)).bind fun bt108 => (if bt108.2 = 0 then (some (0, 0, (⟨#[]⟩ : ByteArray), 0, 0)) else (if bt108.1 = 65533 then (if bt108.2 = 1 then (some (0, 0, (⟨#[]⟩ : ByteArray), 0, 0)) else (if bt108.1 = 10 then (some (0, 0, (⟨#[]⟩ : ByteArray), 0, 0)) else (if bt108.1 = 92 then (some (0, 0, (⟨#[]⟩ : ByteArray), 0, 0)) else (some (4, 0, (⟨#[]⟩ : ByteArray), bt108.1, wrap64 (bt108.2 + 1)))))) else (if bt108.1 = 10 then (some (0, 0, (⟨#[]⟩ : ByteArray), 0, 0)) else (if bt108.1 = 92 then (some (0, 0, (⟨#[]⟩ : ByteArray), 0, 0)) else (some (4, 0, (⟨#[]⟩ : ByteArray), bt108.1, wrap64 (bt108.2 + 1)))))))) else (none)))) = some (r1, r2, r3, r4, r5) := h
 clear h
 replace H := Option.bind_eq_some_iff.mp H
 obtain ⟨t102, A20, H⟩ := H
 replace H : (if t102 = true then ((lex_escaped.f a0).bind fun bt103 => (some (bt103.1, bt103.2.1, bt103.2.2.1, bt103.2.2.2.1, bt103.2.2.2.2))) else (if 1 ≤ (a0.size : Int) then ((utf8_DecodeRuneInString.f (a0.extract 1 a0.size)).bind fun bt108 => (if bt108.2 = 0 then (some (0, 0, (⟨#[]⟩ : ByteArray), 0, 0)) else (if bt108.1 = 65533 then (if bt108.2 = 1 then (some (0, 0, (⟨#[]⟩ : ByteArray), 0, 0)) else (if bt108.1 = 10 then (some (0, 0, (⟨#[]⟩ : ByteArray), 0, 0)) else (if bt108.1 = 92 then (some (0, 0, (⟨#[]⟩ : ByteArray), 0, 0)) else (some (4, 0, (⟨#[]⟩ : ByteArray), bt108.1, wrap64 (bt108.2 + 1)))))) else (if bt108.1 = 10 then (some (0, 0, (⟨#[]⟩ : ByteArray), 0, 0)) else (if bt108.1 = 92 then (some (0, 0, (⟨#[]⟩ : ByteArray), 0, 0)) else (some (4, 0, (⟨#[]⟩ : ByteArray), bt108.1, wrap64 (bt108.2 + 1)))))))) else (none))) = some (r1, r2, r3, r4, r5) := H
 have A2 := Aside0.mk A20
 clear A20
 by_cases c3 : t102 = true
 ·subst c3
  have H1 : ((lex_escaped.f a0).bind fun bt103 => (some (bt103.1, bt103.2.1, bt103.2.2.1, bt103.2.2.2.1, bt103.2.2.2.2))) = some (r1, r2, r3, r4, r5) := by rw [if_pos rfl] at H; exact H
  clear H
  have H := H1
  clear H1
  replace H := Option.bind_eq_some_iff.mp H
  obtain ⟨⟨t103, t104, t105, t106, t107⟩, A40, H⟩ := H
  replace H : (some (t103, t104, t105, t106, t107)) = some (r1, r2, r3, r4, r5) := H
  have A4 := Aside0.mk A40
  clear A40
  simp only [Option.some.injEq, Prod.mk.injEq] at H
  obtain ⟨rfl, rfl, rfl, rfl, rfl⟩ := H
  go_enter Tryz.func120, Tryz.ntmps120
  go_wp2_with (first | ((with_reducible refine gate_dst (N := 2) rfl ?_); refine box_event ?hg (N := 2) ?hd (cs := #[.int .i64 0, .int .i64 0, .string (⟨#[]⟩ : ByteArray), .int .i32 0]) (t := 77) ?hr ?_; (case hd => rfl); (case hg => rfl); (case hr => first | (go_simp; done) | (go_simp; rfl)); intro gb101 hg w5 hbox hb; have n0_ := Aside0.mk (below_step (by repeat (first | (with_reducible first | exact HB.out | apply below_alloc | apply pw_below_drewN | apply below_drew1) | exact HB.out)) hb); have n1_ := Aside0.mk (hbox); have n2_ := Aside0.mk ((by rw [hg]; exact (below_size (by repeat (first | (with_reducible first | exact HB.out | apply below_alloc | apply pw_below_drewN | apply below_drew1) | exact HB.out))) : w.heap.size ≤ gb101)); have n3_ := Aside0.mk ((by rw [hg]; exact (below_size (by repeat (first | (with_reducible first | exact HB.out | apply below_alloc | apply pw_below_drewN | apply below_drew1) | exact HB.out))) : w.heap.size ≤ gb101)); clear HB; have HB := n0_; have BK101 := n1_; have GW101 := n2_; have GE101 := n3_; clear n0_ n1_ n2_ n3_; clear hb hbox hg) | ((with_reducible refine gate_callee (f := 140) rfl ?_); refine goesL_ (some 7) rfl rfl Tryz.func140 (by kernel_rfl) rfl #[.string a0, .string (⟨#[39, 92, 117, 123]⟩ : ByteArray)] rfl (by (try simp only [List.map_toArray, List.map_cons, List.map_nil]); first | done | rfl | (simp only [List.length_drop, List.length_take]; rfl)) ?_; (with_reducible refine (strings_HasPrefix.calls a0 (⟨#[39, 92, 117, 123]⟩ : ByteArray) true _ A2.out).mono ?_); rintro e w6 ⟨rfl, hb⟩; refine ⟨_, rfl, ?_⟩; have n0_ := Aside0.mk (blk_below (g := gb101) (o := .cells #[.int .i64 0, .int .i64 0, .string (⟨#[]⟩ : ByteArray), .int .i32 0] 77 (0, 0)) (by (with_reducible repeat (first | refine blk_drewN ?_ _ | refine blk_drew ?_ | refine blk_alloc ?_ _)); exact BK101.out) hb); have n1_ := Aside0.mk (below_step (by repeat (first | (with_reducible first | exact HB.out | apply below_alloc | apply pw_below_drewN | apply below_drew1 | refine below_set ?_ GE101.out) | exact HB.out)) hb); clear BK101; clear HB; have BK101 := n0_; have HB := n1_; clear n0_ n1_; (try clear hb); (try clear hb2); (try clear hk); (try clear hi)) | ((with_reducible refine gate_callee (f := 141) rfl ?_); refine goesL_ (some 9) rfl rfl Tryz.func141 (by kernel_rfl) rfl #[.string a0] rfl (by (try simp only [List.map_toArray, List.map_cons, List.map_nil]); first | done | rfl | (simp only [List.length_drop, List.length_take]; rfl)) ?_; (with_reducible refine (lex_escaped.calls a0 t103 t104 t105 t106 t107 _ A4.out).mono ?_); rintro e w7 ⟨rfl, hb⟩; refine ⟨_, rfl, ?_⟩; have n0_ := Aside0.mk (blk_below (g := gb101) (o := .cells #[.int .i64 0, .int .i64 0, .string (⟨#[]⟩ : ByteArray), .int .i32 0] 77 (0, 0)) (by (with_reducible repeat (first | refine blk_drewN ?_ _ | refine blk_drew ?_ | refine blk_alloc ?_ _)); exact BK101.out) hb); have n1_ := Aside0.mk (below_step (by repeat (first | (with_reducible first | exact HB.out | apply below_alloc | apply pw_below_drewN | apply below_drew1 | refine below_set ?_ GE101.out) | exact HB.out)) hb); clear BK101; clear HB; have BK101 := n0_; have HB := n1_; clear n0_ n1_; (try clear hb); (try clear hb2); (try clear hk); (try clear hi); have hcz8_0 : w7.cell? ⟨gb101, 0, none⟩ = some (.int .i64 0) := (blk_cell BK101.out 0).trans rfl; have hcz8_1 : w7.cell? ⟨gb101, 1, none⟩ = some (.int .i64 0) := (blk_cell BK101.out 1).trans rfl; have hcz8_2 : w7.cell? ⟨gb101, 2, none⟩ = some (.string (⟨#[]⟩ : ByteArray)) := (blk_cell BK101.out 2).trans rfl; have hcz8_3 : w7.cell? ⟨gb101, 3, none⟩ = some (.int .i32 0) := (blk_cell BK101.out 3).trans rfl; have hfz8_0 := blk_frozen BK101.out 0; have hfz8_1 := blk_frozen BK101.out 1; have hfz8_2 := blk_frozen BK101.out 2; have hfz8_3 := blk_frozen BK101.out 3))
  refine bodyPost_ret (results_ct rfl _ _ gb101 77 #[.int .i64 t103, .int .i64 t104, .string t105, .int .i32 t106] (0, 0) _ rfl (by (with_reducible repeat (first | refine blk_drewN ?_ _ | refine blk_drew ?_ | refine blk_alloc ?_ _)); refine blk_put (cs := #[.int .i64 t103, .int .i64 t104, .string t105, .int .i32 0]) ?_ 3 _ rfl; (with_reducible repeat (first | refine blk_drewN ?_ _ | refine blk_drew ?_ | refine blk_alloc ?_ _)); refine blk_put (cs := #[.int .i64 t103, .int .i64 t104, .string (⟨#[]⟩ : ByteArray), .int .i32 0]) ?_ 2 _ rfl; (with_reducible repeat (first | refine blk_drewN ?_ _ | refine blk_drew ?_ | refine blk_alloc ?_ _)); refine blk_put (cs := #[.int .i64 t103, .int .i64 0, .string (⟨#[]⟩ : ByteArray), .int .i32 0]) ?_ 1 _ rfl; (with_reducible repeat (first | refine blk_drewN ?_ _ | refine blk_drew ?_ | refine blk_alloc ?_ _)); refine blk_put (cs := #[.int .i64 0, .int .i64 0, .string (⟨#[]⟩ : ByteArray), .int .i32 0]) ?_ 0 _ rfl; (with_reducible repeat (first | refine blk_drewN ?_ _ | refine blk_drew ?_ | refine blk_alloc ?_ _)); exact BK101.out) Tryz.underlying77 rfl (by kernel_rfl)) rfl ?_
  exact ⟨by first | rfl | (simp [errW_none, errW_some] <;> rfl) | (simp [*, errW_none, errW_some] <;> rfl), by repeat (first | (with_reducible first | exact HB.out | apply below_alloc | apply pw_below_drewN | apply below_drew1 | refine below_set ?_ GE101.out) | exact HB.out)⟩
 ·replace c3 := Bool.eq_false_iff.mpr c3
  subst c3
  have H1 : (if 1 ≤ (a0.size : Int) then ((utf8_DecodeRuneInString.f (a0.extract 1 a0.size)).bind fun bt108 => (if bt108.2 = 0 then (some (0, 0, (⟨#[]⟩ : ByteArray), 0, 0)) else (if bt108.1 = 65533 then (if bt108.2 = 1 then (some (0, 0, (⟨#[]⟩ : ByteArray), 0, 0)) else (if bt108.1 = 10 then (some (0, 0, (⟨#[]⟩ : ByteArray), 0, 0)) else (if bt108.1 = 92 then (some (0, 0, (⟨#[]⟩ : ByteArray), 0, 0)) else (some (4, 0, (⟨#[]⟩ : ByteArray), bt108.1, wrap64 (bt108.2 + 1)))))) else (if bt108.1 = 10 then (some (0, 0, (⟨#[]⟩ : ByteArray), 0, 0)) else (if bt108.1 = 92 then (some (0, 0, (⟨#[]⟩ : ByteArray), 0, 0)) else (some (4, 0, (⟨#[]⟩ : ByteArray), bt108.1, wrap64 (bt108.2 + 1)))))))) else (none)) = some (r1, r2, r3, r4, r5) := by rw [if_neg (show ¬ (false = true) by decide)] at H; exact H
  clear H
  have H := H1
  clear H1
  by_cases c9 : 1 ≤ (a0.size : Int)
  ·rw [if_pos c9] at H
   have c9b0 := eq_true c9
   have c9b1 : decide (1 ≤ (a0.size : Int)) = true := decide_eq_true c9
   clear c9
   replace H := Option.bind_eq_some_iff.mp H
   obtain ⟨⟨t108, t109⟩, A100, H⟩ := H
   replace H : (if t109 = 0 then (some (0, 0, (⟨#[]⟩ : ByteArray), 0, 0)) else (if t108 = 65533 then (if t109 = 1 then (some (0, 0, (⟨#[]⟩ : ByteArray), 0, 0)) else (if t108 = 10 then (some (0, 0, (⟨#[]⟩ : ByteArray), 0, 0)) else (if t108 = 92 then (some (0, 0, (⟨#[]⟩ : ByteArray), 0, 0)) else (some (4, 0, (⟨#[]⟩ : ByteArray), t108, wrap64 (t109 + 1)))))) else (if t108 = 10 then (some (0, 0, (⟨#[]⟩ : ByteArray), 0, 0)) else (if t108 = 92 then (some (0, 0, (⟨#[]⟩ : ByteArray), 0, 0)) else (some (4, 0, (⟨#[]⟩ : ByteArray), t108, wrap64 (t109 + 1))))))) = some (r1, r2, r3, r4, r5) := H
   have A10 := Aside0.mk A100
   clear A100
   by_cases c11 : t109 = 0
   ·rw [if_pos c11] at H
    have c11b0 : (t109 == 0) = true := beq_iff_eq.mpr c11
    have c11b1 : (t109 != 0) = false := bne_eq_false_iff_eq.mpr c11
    clear c11
    simp only [Option.some.injEq, Prod.mk.injEq] at H
    obtain ⟨rfl, rfl, rfl, rfl, rfl⟩ := H
    go_enter Tryz.func120, Tryz.ntmps120
    go_wp2_with (first | ((with_reducible refine gate_dst (N := 2) rfl ?_); refine box_event ?hg (N := 2) ?hd (cs := #[.int .i64 0, .int .i64 0, .string (⟨#[]⟩ : ByteArray), .int .i32 0]) (t := 77) ?hr ?_; (case hd => rfl); (case hg => rfl); (case hr => first | (go_simp; done) | (go_simp; rfl)); intro gb101 hg w12 hbox hb; have n0_ := Aside0.mk (below_step (by repeat (first | (with_reducible first | exact HB.out | apply below_alloc | apply pw_below_drewN | apply below_drew1) | exact HB.out)) hb); have n1_ := Aside0.mk (hbox); have n2_ := Aside0.mk ((by rw [hg]; exact (below_size (by repeat (first | (with_reducible first | exact HB.out | apply below_alloc | apply pw_below_drewN | apply below_drew1) | exact HB.out))) : w.heap.size ≤ gb101)); have n3_ := Aside0.mk ((by rw [hg]; exact (below_size (by repeat (first | (with_reducible first | exact HB.out | apply below_alloc | apply pw_below_drewN | apply below_drew1) | exact HB.out))) : w.heap.size ≤ gb101)); clear HB; have HB := n0_; have BK101 := n1_; have GW101 := n2_; have GE101 := n3_; clear n0_ n1_ n2_ n3_; clear hb hbox hg) | ((with_reducible refine gate_callee (f := 140) rfl ?_); refine goesL_ (some 7) rfl rfl Tryz.func140 (by kernel_rfl) rfl #[.string a0, .string (⟨#[39, 92, 117, 123]⟩ : ByteArray)] rfl (by (try simp only [List.map_toArray, List.map_cons, List.map_nil]); first | done | rfl | (simp only [List.length_drop, List.length_take]; rfl)) ?_; (with_reducible refine (strings_HasPrefix.calls a0 (⟨#[39, 92, 117, 123]⟩ : ByteArray) false _ A2.out).mono ?_); rintro e w13 ⟨rfl, hb⟩; refine ⟨_, rfl, ?_⟩; have n0_ := Aside0.mk (blk_below (g := gb101) (o := .cells #[.int .i64 0, .int .i64 0, .string (⟨#[]⟩ : ByteArray), .int .i32 0] 77 (0, 0)) (by (with_reducible repeat (first | refine blk_drewN ?_ _ | refine blk_drew ?_ | refine blk_alloc ?_ _)); exact BK101.out) hb); have n1_ := Aside0.mk (below_step (by repeat (first | (with_reducible first | exact HB.out | apply below_alloc | apply pw_below_drewN | apply below_drew1 | refine below_set ?_ GE101.out) | exact HB.out)) hb); clear BK101; clear HB; have BK101 := n0_; have HB := n1_; clear n0_ n1_; (try clear hb); (try clear hb2); (try clear hk); (try clear hi)) | ((with_reducible refine gate_callee (f := 142) rfl ?_); refine goesL_ (some 15) rfl rfl Tryz.func142 (by kernel_rfl) rfl #[.string (a0.extract 1 a0.size)] rfl (by (try simp only [List.map_toArray, List.map_cons, List.map_nil]); first | done | rfl | (simp only [List.length_drop, List.length_take]; rfl)) ?_; (with_reducible refine (utf8_DecodeRuneInString.calls (a0.extract 1 a0.size) t108 t109 _ A10.out).mono ?_); rintro e w14 ⟨rfl, hb⟩; refine ⟨_, rfl, ?_⟩; have n0_ := Aside0.mk (blk_below (g := gb101) (o := .cells #[.int .i64 0, .int .i64 0, .string (⟨#[]⟩ : ByteArray), .int .i32 0] 77 (0, 0)) (by (with_reducible repeat (first | refine blk_drewN ?_ _ | refine blk_drew ?_ | refine blk_alloc ?_ _)); exact BK101.out) hb); have n1_ := Aside0.mk (below_step (by repeat (first | (with_reducible first | exact HB.out | apply below_alloc | apply pw_below_drewN | apply below_drew1 | refine below_set ?_ GE101.out) | exact HB.out)) hb); clear BK101; clear HB; have BK101 := n0_; have HB := n1_; clear n0_ n1_; (try clear hb); (try clear hb2); (try clear hk); (try clear hi); have hcz15_0 : w14.cell? ⟨gb101, 0, none⟩ = some (.int .i64 0) := (blk_cell BK101.out 0).trans rfl; have hcz15_1 : w14.cell? ⟨gb101, 1, none⟩ = some (.int .i64 0) := (blk_cell BK101.out 1).trans rfl; have hcz15_2 : w14.cell? ⟨gb101, 2, none⟩ = some (.string (⟨#[]⟩ : ByteArray)) := (blk_cell BK101.out 2).trans rfl; have hcz15_3 : w14.cell? ⟨gb101, 3, none⟩ = some (.int .i32 0) := (blk_cell BK101.out 3).trans rfl; have hfz15_0 := blk_frozen BK101.out 0; have hfz15_1 := blk_frozen BK101.out 1; have hfz15_2 := blk_frozen BK101.out 2; have hfz15_3 := blk_frozen BK101.out 3))
    refine bodyPost_ret (results_ct rfl _ _ gb101 77 #[.int .i64 0, .int .i64 0, .string (⟨#[]⟩ : ByteArray), .int .i32 0] (0, 0) _ rfl (by (with_reducible repeat (first | refine blk_drewN ?_ _ | refine blk_drew ?_ | refine blk_alloc ?_ _)); refine blk_put (cs := #[.int .i64 0, .int .i64 0, .string (⟨#[]⟩ : ByteArray), .int .i32 0]) ?_ 3 _ rfl; (with_reducible repeat (first | refine blk_drewN ?_ _ | refine blk_drew ?_ | refine blk_alloc ?_ _)); refine blk_put (cs := #[.int .i64 0, .int .i64 0, .string (⟨#[]⟩ : ByteArray), .int .i32 0]) ?_ 2 _ rfl; (with_reducible repeat (first | refine blk_drewN ?_ _ | refine blk_drew ?_ | refine blk_alloc ?_ _)); refine blk_put (cs := #[.int .i64 0, .int .i64 0, .string (⟨#[]⟩ : ByteArray), .int .i32 0]) ?_ 1 _ rfl; (with_reducible repeat (first | refine blk_drewN ?_ _ | refine blk_drew ?_ | refine blk_alloc ?_ _)); refine blk_put (cs := #[.int .i64 0, .int .i64 0, .string (⟨#[]⟩ : ByteArray), .int .i32 0]) ?_ 0 _ rfl; (with_reducible repeat (first | refine blk_drewN ?_ _ | refine blk_drew ?_ | refine blk_alloc ?_ _)); exact BK101.out) Tryz.underlying77 rfl (by kernel_rfl)) rfl ?_
    exact ⟨by first | rfl | (simp [errW_none, errW_some] <;> rfl) | (simp [*, errW_none, errW_some] <;> rfl), by repeat (first | (with_reducible first | exact HB.out | apply below_alloc | apply pw_below_drewN | apply below_drew1 | refine below_set ?_ GE101.out) | exact HB.out)⟩
   ·rw [if_neg c11] at H
    have c11b0 : (t109 == 0) = false := beq_eq_false_iff_ne.mpr c11
    have c11b1 : (t109 != 0) = true := bne_iff_ne.mpr c11
    by_cases c16 : t108 = 65533
    ·rw [if_pos c16] at H
     have c16b0 : (t108 == 65533) = true := beq_iff_eq.mpr c16
     have c16b1 : (t108 != 65533) = false := bne_eq_false_iff_eq.mpr c16
     clear c16
     by_cases c17 : t109 = 1
     ·rw [if_pos c17] at H
      have c17b0 : (t109 == 1) = true := beq_iff_eq.mpr c17
      have c17b1 : (t109 != 1) = false := bne_eq_false_iff_eq.mpr c17
      clear c17
      simp only [Option.some.injEq, Prod.mk.injEq] at H
      obtain ⟨rfl, rfl, rfl, rfl, rfl⟩ := H
      go_enter Tryz.func120, Tryz.ntmps120
      go_wp2_with (first | ((with_reducible refine gate_dst (N := 2) rfl ?_); refine box_event ?hg (N := 2) ?hd (cs := #[.int .i64 0, .int .i64 0, .string (⟨#[]⟩ : ByteArray), .int .i32 0]) (t := 77) ?hr ?_; (case hd => rfl); (case hg => rfl); (case hr => first | (go_simp; done) | (go_simp; rfl)); intro gb101 hg w18 hbox hb; have n0_ := Aside0.mk (below_step (by repeat (first | (with_reducible first | exact HB.out | apply below_alloc | apply pw_below_drewN | apply below_drew1) | exact HB.out)) hb); have n1_ := Aside0.mk (hbox); have n2_ := Aside0.mk ((by rw [hg]; exact (below_size (by repeat (first | (with_reducible first | exact HB.out | apply below_alloc | apply pw_below_drewN | apply below_drew1) | exact HB.out))) : w.heap.size ≤ gb101)); have n3_ := Aside0.mk ((by rw [hg]; exact (below_size (by repeat (first | (with_reducible first | exact HB.out | apply below_alloc | apply pw_below_drewN | apply below_drew1) | exact HB.out))) : w.heap.size ≤ gb101)); clear HB; have HB := n0_; have BK101 := n1_; have GW101 := n2_; have GE101 := n3_; clear n0_ n1_ n2_ n3_; clear hb hbox hg) | ((with_reducible refine gate_callee (f := 140) rfl ?_); refine goesL_ (some 7) rfl rfl Tryz.func140 (by kernel_rfl) rfl #[.string a0, .string (⟨#[39, 92, 117, 123]⟩ : ByteArray)] rfl (by (try simp only [List.map_toArray, List.map_cons, List.map_nil]); first | done | rfl | (simp only [List.length_drop, List.length_take]; rfl)) ?_; (with_reducible refine (strings_HasPrefix.calls a0 (⟨#[39, 92, 117, 123]⟩ : ByteArray) false _ A2.out).mono ?_); rintro e w19 ⟨rfl, hb⟩; refine ⟨_, rfl, ?_⟩; have n0_ := Aside0.mk (blk_below (g := gb101) (o := .cells #[.int .i64 0, .int .i64 0, .string (⟨#[]⟩ : ByteArray), .int .i32 0] 77 (0, 0)) (by (with_reducible repeat (first | refine blk_drewN ?_ _ | refine blk_drew ?_ | refine blk_alloc ?_ _)); exact BK101.out) hb); have n1_ := Aside0.mk (below_step (by repeat (first | (with_reducible first | exact HB.out | apply below_alloc | apply pw_below_drewN | apply below_drew1 | refine below_set ?_ GE101.out) | exact HB.out)) hb); clear BK101; clear HB; have BK101 := n0_; have HB := n1_; clear n0_ n1_; (try clear hb); (try clear hb2); (try clear hk); (try clear hi)) | ((with_reducible refine gate_callee (f := 142) rfl ?_); refine goesL_ (some 15) rfl rfl Tryz.func142 (by kernel_rfl) rfl #[.string (a0.extract 1 a0.size)] rfl (by (try simp only [List.map_toArray, List.map_cons, List.map_nil]); first | done | rfl | (simp only [List.length_drop, List.length_take]; rfl)) ?_; (with_reducible refine (utf8_DecodeRuneInString.calls (a0.extract 1 a0.size) t108 t109 _ A10.out).mono ?_); rintro e w20 ⟨rfl, hb⟩; refine ⟨_, rfl, ?_⟩; have n0_ := Aside0.mk (blk_below (g := gb101) (o := .cells #[.int .i64 0, .int .i64 0, .string (⟨#[]⟩ : ByteArray), .int .i32 0] 77 (0, 0)) (by (with_reducible repeat (first | refine blk_drewN ?_ _ | refine blk_drew ?_ | refine blk_alloc ?_ _)); exact BK101.out) hb); have n1_ := Aside0.mk (below_step (by repeat (first | (with_reducible first | exact HB.out | apply below_alloc | apply pw_below_drewN | apply below_drew1 | refine below_set ?_ GE101.out) | exact HB.out)) hb); clear BK101; clear HB; have BK101 := n0_; have HB := n1_; clear n0_ n1_; (try clear hb); (try clear hb2); (try clear hk); (try clear hi); have hcz21_0 : w20.cell? ⟨gb101, 0, none⟩ = some (.int .i64 0) := (blk_cell BK101.out 0).trans rfl; have hcz21_1 : w20.cell? ⟨gb101, 1, none⟩ = some (.int .i64 0) := (blk_cell BK101.out 1).trans rfl; have hcz21_2 : w20.cell? ⟨gb101, 2, none⟩ = some (.string (⟨#[]⟩ : ByteArray)) := (blk_cell BK101.out 2).trans rfl; have hcz21_3 : w20.cell? ⟨gb101, 3, none⟩ = some (.int .i32 0) := (blk_cell BK101.out 3).trans rfl; have hfz21_0 := blk_frozen BK101.out 0; have hfz21_1 := blk_frozen BK101.out 1; have hfz21_2 := blk_frozen BK101.out 2; have hfz21_3 := blk_frozen BK101.out 3))
      refine bodyPost_ret (results_ct rfl _ _ gb101 77 #[.int .i64 0, .int .i64 0, .string (⟨#[]⟩ : ByteArray), .int .i32 0] (0, 0) _ rfl (by (with_reducible repeat (first | refine blk_drewN ?_ _ | refine blk_drew ?_ | refine blk_alloc ?_ _)); refine blk_put (cs := #[.int .i64 0, .int .i64 0, .string (⟨#[]⟩ : ByteArray), .int .i32 0]) ?_ 3 _ rfl; (with_reducible repeat (first | refine blk_drewN ?_ _ | refine blk_drew ?_ | refine blk_alloc ?_ _)); refine blk_put (cs := #[.int .i64 0, .int .i64 0, .string (⟨#[]⟩ : ByteArray), .int .i32 0]) ?_ 2 _ rfl; (with_reducible repeat (first | refine blk_drewN ?_ _ | refine blk_drew ?_ | refine blk_alloc ?_ _)); refine blk_put (cs := #[.int .i64 0, .int .i64 0, .string (⟨#[]⟩ : ByteArray), .int .i32 0]) ?_ 1 _ rfl; (with_reducible repeat (first | refine blk_drewN ?_ _ | refine blk_drew ?_ | refine blk_alloc ?_ _)); refine blk_put (cs := #[.int .i64 0, .int .i64 0, .string (⟨#[]⟩ : ByteArray), .int .i32 0]) ?_ 0 _ rfl; (with_reducible repeat (first | refine blk_drewN ?_ _ | refine blk_drew ?_ | refine blk_alloc ?_ _)); exact BK101.out) Tryz.underlying77 rfl (by kernel_rfl)) rfl ?_
      exact ⟨by first | rfl | (simp [errW_none, errW_some] <;> rfl) | (simp [*, errW_none, errW_some] <;> rfl), by repeat (first | (with_reducible first | exact HB.out | apply below_alloc | apply pw_below_drewN | apply below_drew1 | refine below_set ?_ GE101.out) | exact HB.out)⟩
     ·rw [if_neg c17] at H
      have c17b0 : (t109 == 1) = false := beq_eq_false_iff_ne.mpr c17
      have c17b1 : (t109 != 1) = true := bne_iff_ne.mpr c17
      by_cases c22 : t108 = 10
      ·rw [if_pos c22] at H
       have c22b0 : (t108 == 10) = true := beq_iff_eq.mpr c22
       have c22b1 : (t108 != 10) = false := bne_eq_false_iff_eq.mpr c22
       clear c22
       simp only [Option.some.injEq, Prod.mk.injEq] at H
       obtain ⟨rfl, rfl, rfl, rfl, rfl⟩ := H
       go_enter Tryz.func120, Tryz.ntmps120
       go_wp2_with (first | ((with_reducible refine gate_dst (N := 2) rfl ?_); refine box_event ?hg (N := 2) ?hd (cs := #[.int .i64 0, .int .i64 0, .string (⟨#[]⟩ : ByteArray), .int .i32 0]) (t := 77) ?hr ?_; (case hd => rfl); (case hg => rfl); (case hr => first | (go_simp; done) | (go_simp; rfl)); intro gb101 hg w23 hbox hb; have n0_ := Aside0.mk (below_step (by repeat (first | (with_reducible first | exact HB.out | apply below_alloc | apply pw_below_drewN | apply below_drew1) | exact HB.out)) hb); have n1_ := Aside0.mk (hbox); have n2_ := Aside0.mk ((by rw [hg]; exact (below_size (by repeat (first | (with_reducible first | exact HB.out | apply below_alloc | apply pw_below_drewN | apply below_drew1) | exact HB.out))) : w.heap.size ≤ gb101)); have n3_ := Aside0.mk ((by rw [hg]; exact (below_size (by repeat (first | (with_reducible first | exact HB.out | apply below_alloc | apply pw_below_drewN | apply below_drew1) | exact HB.out))) : w.heap.size ≤ gb101)); clear HB; have HB := n0_; have BK101 := n1_; have GW101 := n2_; have GE101 := n3_; clear n0_ n1_ n2_ n3_; clear hb hbox hg) | ((with_reducible refine gate_callee (f := 140) rfl ?_); refine goesL_ (some 7) rfl rfl Tryz.func140 (by kernel_rfl) rfl #[.string a0, .string (⟨#[39, 92, 117, 123]⟩ : ByteArray)] rfl (by (try simp only [List.map_toArray, List.map_cons, List.map_nil]); first | done | rfl | (simp only [List.length_drop, List.length_take]; rfl)) ?_; (with_reducible refine (strings_HasPrefix.calls a0 (⟨#[39, 92, 117, 123]⟩ : ByteArray) false _ A2.out).mono ?_); rintro e w24 ⟨rfl, hb⟩; refine ⟨_, rfl, ?_⟩; have n0_ := Aside0.mk (blk_below (g := gb101) (o := .cells #[.int .i64 0, .int .i64 0, .string (⟨#[]⟩ : ByteArray), .int .i32 0] 77 (0, 0)) (by (with_reducible repeat (first | refine blk_drewN ?_ _ | refine blk_drew ?_ | refine blk_alloc ?_ _)); exact BK101.out) hb); have n1_ := Aside0.mk (below_step (by repeat (first | (with_reducible first | exact HB.out | apply below_alloc | apply pw_below_drewN | apply below_drew1 | refine below_set ?_ GE101.out) | exact HB.out)) hb); clear BK101; clear HB; have BK101 := n0_; have HB := n1_; clear n0_ n1_; (try clear hb); (try clear hb2); (try clear hk); (try clear hi)) | ((with_reducible refine gate_callee (f := 142) rfl ?_); refine goesL_ (some 15) rfl rfl Tryz.func142 (by kernel_rfl) rfl #[.string (a0.extract 1 a0.size)] rfl (by (try simp only [List.map_toArray, List.map_cons, List.map_nil]); first | done | rfl | (simp only [List.length_drop, List.length_take]; rfl)) ?_; (with_reducible refine (utf8_DecodeRuneInString.calls (a0.extract 1 a0.size) t108 t109 _ A10.out).mono ?_); rintro e w25 ⟨rfl, hb⟩; refine ⟨_, rfl, ?_⟩; have n0_ := Aside0.mk (blk_below (g := gb101) (o := .cells #[.int .i64 0, .int .i64 0, .string (⟨#[]⟩ : ByteArray), .int .i32 0] 77 (0, 0)) (by (with_reducible repeat (first | refine blk_drewN ?_ _ | refine blk_drew ?_ | refine blk_alloc ?_ _)); exact BK101.out) hb); have n1_ := Aside0.mk (below_step (by repeat (first | (with_reducible first | exact HB.out | apply below_alloc | apply pw_below_drewN | apply below_drew1 | refine below_set ?_ GE101.out) | exact HB.out)) hb); clear BK101; clear HB; have BK101 := n0_; have HB := n1_; clear n0_ n1_; (try clear hb); (try clear hb2); (try clear hk); (try clear hi); have hcz26_0 : w25.cell? ⟨gb101, 0, none⟩ = some (.int .i64 0) := (blk_cell BK101.out 0).trans rfl; have hcz26_1 : w25.cell? ⟨gb101, 1, none⟩ = some (.int .i64 0) := (blk_cell BK101.out 1).trans rfl; have hcz26_2 : w25.cell? ⟨gb101, 2, none⟩ = some (.string (⟨#[]⟩ : ByteArray)) := (blk_cell BK101.out 2).trans rfl; have hcz26_3 : w25.cell? ⟨gb101, 3, none⟩ = some (.int .i32 0) := (blk_cell BK101.out 3).trans rfl; have hfz26_0 := blk_frozen BK101.out 0; have hfz26_1 := blk_frozen BK101.out 1; have hfz26_2 := blk_frozen BK101.out 2; have hfz26_3 := blk_frozen BK101.out 3))
       refine bodyPost_ret (results_ct rfl _ _ gb101 77 #[.int .i64 0, .int .i64 0, .string (⟨#[]⟩ : ByteArray), .int .i32 0] (0, 0) _ rfl (by (with_reducible repeat (first | refine blk_drewN ?_ _ | refine blk_drew ?_ | refine blk_alloc ?_ _)); refine blk_put (cs := #[.int .i64 0, .int .i64 0, .string (⟨#[]⟩ : ByteArray), .int .i32 0]) ?_ 3 _ rfl; (with_reducible repeat (first | refine blk_drewN ?_ _ | refine blk_drew ?_ | refine blk_alloc ?_ _)); refine blk_put (cs := #[.int .i64 0, .int .i64 0, .string (⟨#[]⟩ : ByteArray), .int .i32 0]) ?_ 2 _ rfl; (with_reducible repeat (first | refine blk_drewN ?_ _ | refine blk_drew ?_ | refine blk_alloc ?_ _)); refine blk_put (cs := #[.int .i64 0, .int .i64 0, .string (⟨#[]⟩ : ByteArray), .int .i32 0]) ?_ 1 _ rfl; (with_reducible repeat (first | refine blk_drewN ?_ _ | refine blk_drew ?_ | refine blk_alloc ?_ _)); refine blk_put (cs := #[.int .i64 0, .int .i64 0, .string (⟨#[]⟩ : ByteArray), .int .i32 0]) ?_ 0 _ rfl; (with_reducible repeat (first | refine blk_drewN ?_ _ | refine blk_drew ?_ | refine blk_alloc ?_ _)); exact BK101.out) Tryz.underlying77 rfl (by kernel_rfl)) rfl ?_
       exact ⟨by first | rfl | (simp [errW_none, errW_some] <;> rfl) | (simp [*, errW_none, errW_some] <;> rfl), by repeat (first | (with_reducible first | exact HB.out | apply below_alloc | apply pw_below_drewN | apply below_drew1 | refine below_set ?_ GE101.out) | exact HB.out)⟩
      ·rw [if_neg c22] at H
       have c22b0 : (t108 == 10) = false := beq_eq_false_iff_ne.mpr c22
       have c22b1 : (t108 != 10) = true := bne_iff_ne.mpr c22
       by_cases c27 : t108 = 92
       ·rw [if_pos c27] at H
        have c27b0 : (t108 == 92) = true := beq_iff_eq.mpr c27
        have c27b1 : (t108 != 92) = false := bne_eq_false_iff_eq.mpr c27
        clear c27
        simp only [Option.some.injEq, Prod.mk.injEq] at H
        obtain ⟨rfl, rfl, rfl, rfl, rfl⟩ := H
        go_enter Tryz.func120, Tryz.ntmps120
        go_wp2_with (first | ((with_reducible refine gate_dst (N := 2) rfl ?_); refine box_event ?hg (N := 2) ?hd (cs := #[.int .i64 0, .int .i64 0, .string (⟨#[]⟩ : ByteArray), .int .i32 0]) (t := 77) ?hr ?_; (case hd => rfl); (case hg => rfl); (case hr => first | (go_simp; done) | (go_simp; rfl)); intro gb101 hg w28 hbox hb; have n0_ := Aside0.mk (below_step (by repeat (first | (with_reducible first | exact HB.out | apply below_alloc | apply pw_below_drewN | apply below_drew1) | exact HB.out)) hb); have n1_ := Aside0.mk (hbox); have n2_ := Aside0.mk ((by rw [hg]; exact (below_size (by repeat (first | (with_reducible first | exact HB.out | apply below_alloc | apply pw_below_drewN | apply below_drew1) | exact HB.out))) : w.heap.size ≤ gb101)); have n3_ := Aside0.mk ((by rw [hg]; exact (below_size (by repeat (first | (with_reducible first | exact HB.out | apply below_alloc | apply pw_below_drewN | apply below_drew1) | exact HB.out))) : w.heap.size ≤ gb101)); clear HB; have HB := n0_; have BK101 := n1_; have GW101 := n2_; have GE101 := n3_; clear n0_ n1_ n2_ n3_; clear hb hbox hg) | ((with_reducible refine gate_callee (f := 140) rfl ?_); refine goesL_ (some 7) rfl rfl Tryz.func140 (by kernel_rfl) rfl #[.string a0, .string (⟨#[39, 92, 117, 123]⟩ : ByteArray)] rfl (by (try simp only [List.map_toArray, List.map_cons, List.map_nil]); first | done | rfl | (simp only [List.length_drop, List.length_take]; rfl)) ?_; (with_reducible refine (strings_HasPrefix.calls a0 (⟨#[39, 92, 117, 123]⟩ : ByteArray) false _ A2.out).mono ?_); rintro e w29 ⟨rfl, hb⟩; refine ⟨_, rfl, ?_⟩; have n0_ := Aside0.mk (blk_below (g := gb101) (o := .cells #[.int .i64 0, .int .i64 0, .string (⟨#[]⟩ : ByteArray), .int .i32 0] 77 (0, 0)) (by (with_reducible repeat (first | refine blk_drewN ?_ _ | refine blk_drew ?_ | refine blk_alloc ?_ _)); exact BK101.out) hb); have n1_ := Aside0.mk (below_step (by repeat (first | (with_reducible first | exact HB.out | apply below_alloc | apply pw_below_drewN | apply below_drew1 | refine below_set ?_ GE101.out) | exact HB.out)) hb); clear BK101; clear HB; have BK101 := n0_; have HB := n1_; clear n0_ n1_; (try clear hb); (try clear hb2); (try clear hk); (try clear hi)) | ((with_reducible refine gate_callee (f := 142) rfl ?_); refine goesL_ (some 15) rfl rfl Tryz.func142 (by kernel_rfl) rfl #[.string (a0.extract 1 a0.size)] rfl (by (try simp only [List.map_toArray, List.map_cons, List.map_nil]); first | done | rfl | (simp only [List.length_drop, List.length_take]; rfl)) ?_; (with_reducible refine (utf8_DecodeRuneInString.calls (a0.extract 1 a0.size) t108 t109 _ A10.out).mono ?_); rintro e w30 ⟨rfl, hb⟩; refine ⟨_, rfl, ?_⟩; have n0_ := Aside0.mk (blk_below (g := gb101) (o := .cells #[.int .i64 0, .int .i64 0, .string (⟨#[]⟩ : ByteArray), .int .i32 0] 77 (0, 0)) (by (with_reducible repeat (first | refine blk_drewN ?_ _ | refine blk_drew ?_ | refine blk_alloc ?_ _)); exact BK101.out) hb); have n1_ := Aside0.mk (below_step (by repeat (first | (with_reducible first | exact HB.out | apply below_alloc | apply pw_below_drewN | apply below_drew1 | refine below_set ?_ GE101.out) | exact HB.out)) hb); clear BK101; clear HB; have BK101 := n0_; have HB := n1_; clear n0_ n1_; (try clear hb); (try clear hb2); (try clear hk); (try clear hi); have hcz31_0 : w30.cell? ⟨gb101, 0, none⟩ = some (.int .i64 0) := (blk_cell BK101.out 0).trans rfl; have hcz31_1 : w30.cell? ⟨gb101, 1, none⟩ = some (.int .i64 0) := (blk_cell BK101.out 1).trans rfl; have hcz31_2 : w30.cell? ⟨gb101, 2, none⟩ = some (.string (⟨#[]⟩ : ByteArray)) := (blk_cell BK101.out 2).trans rfl; have hcz31_3 : w30.cell? ⟨gb101, 3, none⟩ = some (.int .i32 0) := (blk_cell BK101.out 3).trans rfl; have hfz31_0 := blk_frozen BK101.out 0; have hfz31_1 := blk_frozen BK101.out 1; have hfz31_2 := blk_frozen BK101.out 2; have hfz31_3 := blk_frozen BK101.out 3))
        refine bodyPost_ret (results_ct rfl _ _ gb101 77 #[.int .i64 0, .int .i64 0, .string (⟨#[]⟩ : ByteArray), .int .i32 0] (0, 0) _ rfl (by (with_reducible repeat (first | refine blk_drewN ?_ _ | refine blk_drew ?_ | refine blk_alloc ?_ _)); refine blk_put (cs := #[.int .i64 0, .int .i64 0, .string (⟨#[]⟩ : ByteArray), .int .i32 0]) ?_ 3 _ rfl; (with_reducible repeat (first | refine blk_drewN ?_ _ | refine blk_drew ?_ | refine blk_alloc ?_ _)); refine blk_put (cs := #[.int .i64 0, .int .i64 0, .string (⟨#[]⟩ : ByteArray), .int .i32 0]) ?_ 2 _ rfl; (with_reducible repeat (first | refine blk_drewN ?_ _ | refine blk_drew ?_ | refine blk_alloc ?_ _)); refine blk_put (cs := #[.int .i64 0, .int .i64 0, .string (⟨#[]⟩ : ByteArray), .int .i32 0]) ?_ 1 _ rfl; (with_reducible repeat (first | refine blk_drewN ?_ _ | refine blk_drew ?_ | refine blk_alloc ?_ _)); refine blk_put (cs := #[.int .i64 0, .int .i64 0, .string (⟨#[]⟩ : ByteArray), .int .i32 0]) ?_ 0 _ rfl; (with_reducible repeat (first | refine blk_drewN ?_ _ | refine blk_drew ?_ | refine blk_alloc ?_ _)); exact BK101.out) Tryz.underlying77 rfl (by kernel_rfl)) rfl ?_
        exact ⟨by first | rfl | (simp [errW_none, errW_some] <;> rfl) | (simp [*, errW_none, errW_some] <;> rfl), by repeat (first | (with_reducible first | exact HB.out | apply below_alloc | apply pw_below_drewN | apply below_drew1 | refine below_set ?_ GE101.out) | exact HB.out)⟩
       ·rw [if_neg c27] at H
        have c27b0 : (t108 == 92) = false := beq_eq_false_iff_ne.mpr c27
        have c27b1 : (t108 != 92) = true := bne_iff_ne.mpr c27
        simp only [Option.some.injEq, Prod.mk.injEq] at H
        obtain ⟨rfl, rfl, rfl, rfl, rfl⟩ := H
        go_enter Tryz.func120, Tryz.ntmps120
        go_wp2_with (first | ((with_reducible refine gate_dst (N := 2) rfl ?_); refine box_event ?hg (N := 2) ?hd (cs := #[.int .i64 0, .int .i64 0, .string (⟨#[]⟩ : ByteArray), .int .i32 0]) (t := 77) ?hr ?_; (case hd => rfl); (case hg => rfl); (case hr => first | (go_simp; done) | (go_simp; rfl)); intro gb101 hg w32 hbox hb; have n0_ := Aside0.mk (below_step (by repeat (first | (with_reducible first | exact HB.out | apply below_alloc | apply pw_below_drewN | apply below_drew1) | exact HB.out)) hb); have n1_ := Aside0.mk (hbox); have n2_ := Aside0.mk ((by rw [hg]; exact (below_size (by repeat (first | (with_reducible first | exact HB.out | apply below_alloc | apply pw_below_drewN | apply below_drew1) | exact HB.out))) : w.heap.size ≤ gb101)); have n3_ := Aside0.mk ((by rw [hg]; exact (below_size (by repeat (first | (with_reducible first | exact HB.out | apply below_alloc | apply pw_below_drewN | apply below_drew1) | exact HB.out))) : w.heap.size ≤ gb101)); clear HB; have HB := n0_; have BK101 := n1_; have GW101 := n2_; have GE101 := n3_; clear n0_ n1_ n2_ n3_; clear hb hbox hg) | ((with_reducible refine gate_callee (f := 140) rfl ?_); refine goesL_ (some 7) rfl rfl Tryz.func140 (by kernel_rfl) rfl #[.string a0, .string (⟨#[39, 92, 117, 123]⟩ : ByteArray)] rfl (by (try simp only [List.map_toArray, List.map_cons, List.map_nil]); first | done | rfl | (simp only [List.length_drop, List.length_take]; rfl)) ?_; (with_reducible refine (strings_HasPrefix.calls a0 (⟨#[39, 92, 117, 123]⟩ : ByteArray) false _ A2.out).mono ?_); rintro e w33 ⟨rfl, hb⟩; refine ⟨_, rfl, ?_⟩; have n0_ := Aside0.mk (blk_below (g := gb101) (o := .cells #[.int .i64 0, .int .i64 0, .string (⟨#[]⟩ : ByteArray), .int .i32 0] 77 (0, 0)) (by (with_reducible repeat (first | refine blk_drewN ?_ _ | refine blk_drew ?_ | refine blk_alloc ?_ _)); exact BK101.out) hb); have n1_ := Aside0.mk (below_step (by repeat (first | (with_reducible first | exact HB.out | apply below_alloc | apply pw_below_drewN | apply below_drew1 | refine below_set ?_ GE101.out) | exact HB.out)) hb); clear BK101; clear HB; have BK101 := n0_; have HB := n1_; clear n0_ n1_; (try clear hb); (try clear hb2); (try clear hk); (try clear hi)) | ((with_reducible refine gate_callee (f := 142) rfl ?_); refine goesL_ (some 15) rfl rfl Tryz.func142 (by kernel_rfl) rfl #[.string (a0.extract 1 a0.size)] rfl (by (try simp only [List.map_toArray, List.map_cons, List.map_nil]); first | done | rfl | (simp only [List.length_drop, List.length_take]; rfl)) ?_; (with_reducible refine (utf8_DecodeRuneInString.calls (a0.extract 1 a0.size) t108 t109 _ A10.out).mono ?_); rintro e w34 ⟨rfl, hb⟩; refine ⟨_, rfl, ?_⟩; have n0_ := Aside0.mk (blk_below (g := gb101) (o := .cells #[.int .i64 0, .int .i64 0, .string (⟨#[]⟩ : ByteArray), .int .i32 0] 77 (0, 0)) (by (with_reducible repeat (first | refine blk_drewN ?_ _ | refine blk_drew ?_ | refine blk_alloc ?_ _)); exact BK101.out) hb); have n1_ := Aside0.mk (below_step (by repeat (first | (with_reducible first | exact HB.out | apply below_alloc | apply pw_below_drewN | apply below_drew1 | refine below_set ?_ GE101.out) | exact HB.out)) hb); clear BK101; clear HB; have BK101 := n0_; have HB := n1_; clear n0_ n1_; (try clear hb); (try clear hb2); (try clear hk); (try clear hi); have hcz35_0 : w34.cell? ⟨gb101, 0, none⟩ = some (.int .i64 0) := (blk_cell BK101.out 0).trans rfl; have hcz35_1 : w34.cell? ⟨gb101, 1, none⟩ = some (.int .i64 0) := (blk_cell BK101.out 1).trans rfl; have hcz35_2 : w34.cell? ⟨gb101, 2, none⟩ = some (.string (⟨#[]⟩ : ByteArray)) := (blk_cell BK101.out 2).trans rfl; have hcz35_3 : w34.cell? ⟨gb101, 3, none⟩ = some (.int .i32 0) := (blk_cell BK101.out 3).trans rfl; have hfz35_0 := blk_frozen BK101.out 0; have hfz35_1 := blk_frozen BK101.out 1; have hfz35_2 := blk_frozen BK101.out 2; have hfz35_3 := blk_frozen BK101.out 3))
        refine bodyPost_ret (results_ct rfl _ _ gb101 77 #[.int .i64 4, .int .i64 0, .string (⟨#[]⟩ : ByteArray), .int .i32 t108] (0, 0) _ rfl (by (with_reducible repeat (first | refine blk_drewN ?_ _ | refine blk_drew ?_ | refine blk_alloc ?_ _)); refine blk_put (cs := #[.int .i64 4, .int .i64 0, .string (⟨#[]⟩ : ByteArray), .int .i32 0]) ?_ 3 _ rfl; (with_reducible repeat (first | refine blk_drewN ?_ _ | refine blk_drew ?_ | refine blk_alloc ?_ _)); refine blk_put (cs := #[.int .i64 4, .int .i64 0, .string (⟨#[]⟩ : ByteArray), .int .i32 0]) ?_ 2 _ rfl; (with_reducible repeat (first | refine blk_drewN ?_ _ | refine blk_drew ?_ | refine blk_alloc ?_ _)); refine blk_put (cs := #[.int .i64 4, .int .i64 0, .string (⟨#[]⟩ : ByteArray), .int .i32 0]) ?_ 1 _ rfl; (with_reducible repeat (first | refine blk_drewN ?_ _ | refine blk_drew ?_ | refine blk_alloc ?_ _)); refine blk_put (cs := #[.int .i64 0, .int .i64 0, .string (⟨#[]⟩ : ByteArray), .int .i32 0]) ?_ 0 _ rfl; (with_reducible repeat (first | refine blk_drewN ?_ _ | refine blk_drew ?_ | refine blk_alloc ?_ _)); exact BK101.out) Tryz.underlying77 rfl (by kernel_rfl)) rfl ?_
        exact ⟨by first | rfl | (simp [errW_none, errW_some] <;> rfl) | (simp [*, errW_none, errW_some] <;> rfl), by repeat (first | (with_reducible first | exact HB.out | apply below_alloc | apply pw_below_drewN | apply below_drew1 | refine below_set ?_ GE101.out) | exact HB.out)⟩
    ·rw [if_neg c16] at H
     have c16b0 : (t108 == 65533) = false := beq_eq_false_iff_ne.mpr c16
     have c16b1 : (t108 != 65533) = true := bne_iff_ne.mpr c16
     by_cases c36 : t108 = 10
     ·rw [if_pos c36] at H
      have c36b0 : (t108 == 10) = true := beq_iff_eq.mpr c36
      have c36b1 : (t108 != 10) = false := bne_eq_false_iff_eq.mpr c36
      clear c36
      simp only [Option.some.injEq, Prod.mk.injEq] at H
      obtain ⟨rfl, rfl, rfl, rfl, rfl⟩ := H
      go_enter Tryz.func120, Tryz.ntmps120
      go_wp2_with (first | ((with_reducible refine gate_dst (N := 2) rfl ?_); refine box_event ?hg (N := 2) ?hd (cs := #[.int .i64 0, .int .i64 0, .string (⟨#[]⟩ : ByteArray), .int .i32 0]) (t := 77) ?hr ?_; (case hd => rfl); (case hg => rfl); (case hr => first | (go_simp; done) | (go_simp; rfl)); intro gb101 hg w37 hbox hb; have n0_ := Aside0.mk (below_step (by repeat (first | (with_reducible first | exact HB.out | apply below_alloc | apply pw_below_drewN | apply below_drew1) | exact HB.out)) hb); have n1_ := Aside0.mk (hbox); have n2_ := Aside0.mk ((by rw [hg]; exact (below_size (by repeat (first | (with_reducible first | exact HB.out | apply below_alloc | apply pw_below_drewN | apply below_drew1) | exact HB.out))) : w.heap.size ≤ gb101)); have n3_ := Aside0.mk ((by rw [hg]; exact (below_size (by repeat (first | (with_reducible first | exact HB.out | apply below_alloc | apply pw_below_drewN | apply below_drew1) | exact HB.out))) : w.heap.size ≤ gb101)); clear HB; have HB := n0_; have BK101 := n1_; have GW101 := n2_; have GE101 := n3_; clear n0_ n1_ n2_ n3_; clear hb hbox hg) | ((with_reducible refine gate_callee (f := 140) rfl ?_); refine goesL_ (some 7) rfl rfl Tryz.func140 (by kernel_rfl) rfl #[.string a0, .string (⟨#[39, 92, 117, 123]⟩ : ByteArray)] rfl (by (try simp only [List.map_toArray, List.map_cons, List.map_nil]); first | done | rfl | (simp only [List.length_drop, List.length_take]; rfl)) ?_; (with_reducible refine (strings_HasPrefix.calls a0 (⟨#[39, 92, 117, 123]⟩ : ByteArray) false _ A2.out).mono ?_); rintro e w38 ⟨rfl, hb⟩; refine ⟨_, rfl, ?_⟩; have n0_ := Aside0.mk (blk_below (g := gb101) (o := .cells #[.int .i64 0, .int .i64 0, .string (⟨#[]⟩ : ByteArray), .int .i32 0] 77 (0, 0)) (by (with_reducible repeat (first | refine blk_drewN ?_ _ | refine blk_drew ?_ | refine blk_alloc ?_ _)); exact BK101.out) hb); have n1_ := Aside0.mk (below_step (by repeat (first | (with_reducible first | exact HB.out | apply below_alloc | apply pw_below_drewN | apply below_drew1 | refine below_set ?_ GE101.out) | exact HB.out)) hb); clear BK101; clear HB; have BK101 := n0_; have HB := n1_; clear n0_ n1_; (try clear hb); (try clear hb2); (try clear hk); (try clear hi)) | ((with_reducible refine gate_callee (f := 142) rfl ?_); refine goesL_ (some 15) rfl rfl Tryz.func142 (by kernel_rfl) rfl #[.string (a0.extract 1 a0.size)] rfl (by (try simp only [List.map_toArray, List.map_cons, List.map_nil]); first | done | rfl | (simp only [List.length_drop, List.length_take]; rfl)) ?_; (with_reducible refine (utf8_DecodeRuneInString.calls (a0.extract 1 a0.size) t108 t109 _ A10.out).mono ?_); rintro e w39 ⟨rfl, hb⟩; refine ⟨_, rfl, ?_⟩; have n0_ := Aside0.mk (blk_below (g := gb101) (o := .cells #[.int .i64 0, .int .i64 0, .string (⟨#[]⟩ : ByteArray), .int .i32 0] 77 (0, 0)) (by (with_reducible repeat (first | refine blk_drewN ?_ _ | refine blk_drew ?_ | refine blk_alloc ?_ _)); exact BK101.out) hb); have n1_ := Aside0.mk (below_step (by repeat (first | (with_reducible first | exact HB.out | apply below_alloc | apply pw_below_drewN | apply below_drew1 | refine below_set ?_ GE101.out) | exact HB.out)) hb); clear BK101; clear HB; have BK101 := n0_; have HB := n1_; clear n0_ n1_; (try clear hb); (try clear hb2); (try clear hk); (try clear hi); have hcz40_0 : w39.cell? ⟨gb101, 0, none⟩ = some (.int .i64 0) := (blk_cell BK101.out 0).trans rfl; have hcz40_1 : w39.cell? ⟨gb101, 1, none⟩ = some (.int .i64 0) := (blk_cell BK101.out 1).trans rfl; have hcz40_2 : w39.cell? ⟨gb101, 2, none⟩ = some (.string (⟨#[]⟩ : ByteArray)) := (blk_cell BK101.out 2).trans rfl; have hcz40_3 : w39.cell? ⟨gb101, 3, none⟩ = some (.int .i32 0) := (blk_cell BK101.out 3).trans rfl; have hfz40_0 := blk_frozen BK101.out 0; have hfz40_1 := blk_frozen BK101.out 1; have hfz40_2 := blk_frozen BK101.out 2; have hfz40_3 := blk_frozen BK101.out 3))
      refine bodyPost_ret (results_ct rfl _ _ gb101 77 #[.int .i64 0, .int .i64 0, .string (⟨#[]⟩ : ByteArray), .int .i32 0] (0, 0) _ rfl (by (with_reducible repeat (first | refine blk_drewN ?_ _ | refine blk_drew ?_ | refine blk_alloc ?_ _)); refine blk_put (cs := #[.int .i64 0, .int .i64 0, .string (⟨#[]⟩ : ByteArray), .int .i32 0]) ?_ 3 _ rfl; (with_reducible repeat (first | refine blk_drewN ?_ _ | refine blk_drew ?_ | refine blk_alloc ?_ _)); refine blk_put (cs := #[.int .i64 0, .int .i64 0, .string (⟨#[]⟩ : ByteArray), .int .i32 0]) ?_ 2 _ rfl; (with_reducible repeat (first | refine blk_drewN ?_ _ | refine blk_drew ?_ | refine blk_alloc ?_ _)); refine blk_put (cs := #[.int .i64 0, .int .i64 0, .string (⟨#[]⟩ : ByteArray), .int .i32 0]) ?_ 1 _ rfl; (with_reducible repeat (first | refine blk_drewN ?_ _ | refine blk_drew ?_ | refine blk_alloc ?_ _)); refine blk_put (cs := #[.int .i64 0, .int .i64 0, .string (⟨#[]⟩ : ByteArray), .int .i32 0]) ?_ 0 _ rfl; (with_reducible repeat (first | refine blk_drewN ?_ _ | refine blk_drew ?_ | refine blk_alloc ?_ _)); exact BK101.out) Tryz.underlying77 rfl (by kernel_rfl)) rfl ?_
      exact ⟨by first | rfl | (simp [errW_none, errW_some] <;> rfl) | (simp [*, errW_none, errW_some] <;> rfl), by repeat (first | (with_reducible first | exact HB.out | apply below_alloc | apply pw_below_drewN | apply below_drew1 | refine below_set ?_ GE101.out) | exact HB.out)⟩
     ·rw [if_neg c36] at H
      have c36b0 : (t108 == 10) = false := beq_eq_false_iff_ne.mpr c36
      have c36b1 : (t108 != 10) = true := bne_iff_ne.mpr c36
      by_cases c41 : t108 = 92
      ·rw [if_pos c41] at H
       have c41b0 : (t108 == 92) = true := beq_iff_eq.mpr c41
       have c41b1 : (t108 != 92) = false := bne_eq_false_iff_eq.mpr c41
       clear c41
       simp only [Option.some.injEq, Prod.mk.injEq] at H
       obtain ⟨rfl, rfl, rfl, rfl, rfl⟩ := H
       go_enter Tryz.func120, Tryz.ntmps120
       go_wp2_with (first | ((with_reducible refine gate_dst (N := 2) rfl ?_); refine box_event ?hg (N := 2) ?hd (cs := #[.int .i64 0, .int .i64 0, .string (⟨#[]⟩ : ByteArray), .int .i32 0]) (t := 77) ?hr ?_; (case hd => rfl); (case hg => rfl); (case hr => first | (go_simp; done) | (go_simp; rfl)); intro gb101 hg w42 hbox hb; have n0_ := Aside0.mk (below_step (by repeat (first | (with_reducible first | exact HB.out | apply below_alloc | apply pw_below_drewN | apply below_drew1) | exact HB.out)) hb); have n1_ := Aside0.mk (hbox); have n2_ := Aside0.mk ((by rw [hg]; exact (below_size (by repeat (first | (with_reducible first | exact HB.out | apply below_alloc | apply pw_below_drewN | apply below_drew1) | exact HB.out))) : w.heap.size ≤ gb101)); have n3_ := Aside0.mk ((by rw [hg]; exact (below_size (by repeat (first | (with_reducible first | exact HB.out | apply below_alloc | apply pw_below_drewN | apply below_drew1) | exact HB.out))) : w.heap.size ≤ gb101)); clear HB; have HB := n0_; have BK101 := n1_; have GW101 := n2_; have GE101 := n3_; clear n0_ n1_ n2_ n3_; clear hb hbox hg) | ((with_reducible refine gate_callee (f := 140) rfl ?_); refine goesL_ (some 7) rfl rfl Tryz.func140 (by kernel_rfl) rfl #[.string a0, .string (⟨#[39, 92, 117, 123]⟩ : ByteArray)] rfl (by (try simp only [List.map_toArray, List.map_cons, List.map_nil]); first | done | rfl | (simp only [List.length_drop, List.length_take]; rfl)) ?_; (with_reducible refine (strings_HasPrefix.calls a0 (⟨#[39, 92, 117, 123]⟩ : ByteArray) false _ A2.out).mono ?_); rintro e w43 ⟨rfl, hb⟩; refine ⟨_, rfl, ?_⟩; have n0_ := Aside0.mk (blk_below (g := gb101) (o := .cells #[.int .i64 0, .int .i64 0, .string (⟨#[]⟩ : ByteArray), .int .i32 0] 77 (0, 0)) (by (with_reducible repeat (first | refine blk_drewN ?_ _ | refine blk_drew ?_ | refine blk_alloc ?_ _)); exact BK101.out) hb); have n1_ := Aside0.mk (below_step (by repeat (first | (with_reducible first | exact HB.out | apply below_alloc | apply pw_below_drewN | apply below_drew1 | refine below_set ?_ GE101.out) | exact HB.out)) hb); clear BK101; clear HB; have BK101 := n0_; have HB := n1_; clear n0_ n1_; (try clear hb); (try clear hb2); (try clear hk); (try clear hi)) | ((with_reducible refine gate_callee (f := 142) rfl ?_); refine goesL_ (some 15) rfl rfl Tryz.func142 (by kernel_rfl) rfl #[.string (a0.extract 1 a0.size)] rfl (by (try simp only [List.map_toArray, List.map_cons, List.map_nil]); first | done | rfl | (simp only [List.length_drop, List.length_take]; rfl)) ?_; (with_reducible refine (utf8_DecodeRuneInString.calls (a0.extract 1 a0.size) t108 t109 _ A10.out).mono ?_); rintro e w44 ⟨rfl, hb⟩; refine ⟨_, rfl, ?_⟩; have n0_ := Aside0.mk (blk_below (g := gb101) (o := .cells #[.int .i64 0, .int .i64 0, .string (⟨#[]⟩ : ByteArray), .int .i32 0] 77 (0, 0)) (by (with_reducible repeat (first | refine blk_drewN ?_ _ | refine blk_drew ?_ | refine blk_alloc ?_ _)); exact BK101.out) hb); have n1_ := Aside0.mk (below_step (by repeat (first | (with_reducible first | exact HB.out | apply below_alloc | apply pw_below_drewN | apply below_drew1 | refine below_set ?_ GE101.out) | exact HB.out)) hb); clear BK101; clear HB; have BK101 := n0_; have HB := n1_; clear n0_ n1_; (try clear hb); (try clear hb2); (try clear hk); (try clear hi); have hcz45_0 : w44.cell? ⟨gb101, 0, none⟩ = some (.int .i64 0) := (blk_cell BK101.out 0).trans rfl; have hcz45_1 : w44.cell? ⟨gb101, 1, none⟩ = some (.int .i64 0) := (blk_cell BK101.out 1).trans rfl; have hcz45_2 : w44.cell? ⟨gb101, 2, none⟩ = some (.string (⟨#[]⟩ : ByteArray)) := (blk_cell BK101.out 2).trans rfl; have hcz45_3 : w44.cell? ⟨gb101, 3, none⟩ = some (.int .i32 0) := (blk_cell BK101.out 3).trans rfl; have hfz45_0 := blk_frozen BK101.out 0; have hfz45_1 := blk_frozen BK101.out 1; have hfz45_2 := blk_frozen BK101.out 2; have hfz45_3 := blk_frozen BK101.out 3))
       refine bodyPost_ret (results_ct rfl _ _ gb101 77 #[.int .i64 0, .int .i64 0, .string (⟨#[]⟩ : ByteArray), .int .i32 0] (0, 0) _ rfl (by (with_reducible repeat (first | refine blk_drewN ?_ _ | refine blk_drew ?_ | refine blk_alloc ?_ _)); refine blk_put (cs := #[.int .i64 0, .int .i64 0, .string (⟨#[]⟩ : ByteArray), .int .i32 0]) ?_ 3 _ rfl; (with_reducible repeat (first | refine blk_drewN ?_ _ | refine blk_drew ?_ | refine blk_alloc ?_ _)); refine blk_put (cs := #[.int .i64 0, .int .i64 0, .string (⟨#[]⟩ : ByteArray), .int .i32 0]) ?_ 2 _ rfl; (with_reducible repeat (first | refine blk_drewN ?_ _ | refine blk_drew ?_ | refine blk_alloc ?_ _)); refine blk_put (cs := #[.int .i64 0, .int .i64 0, .string (⟨#[]⟩ : ByteArray), .int .i32 0]) ?_ 1 _ rfl; (with_reducible repeat (first | refine blk_drewN ?_ _ | refine blk_drew ?_ | refine blk_alloc ?_ _)); refine blk_put (cs := #[.int .i64 0, .int .i64 0, .string (⟨#[]⟩ : ByteArray), .int .i32 0]) ?_ 0 _ rfl; (with_reducible repeat (first | refine blk_drewN ?_ _ | refine blk_drew ?_ | refine blk_alloc ?_ _)); exact BK101.out) Tryz.underlying77 rfl (by kernel_rfl)) rfl ?_
       exact ⟨by first | rfl | (simp [errW_none, errW_some] <;> rfl) | (simp [*, errW_none, errW_some] <;> rfl), by repeat (first | (with_reducible first | exact HB.out | apply below_alloc | apply pw_below_drewN | apply below_drew1 | refine below_set ?_ GE101.out) | exact HB.out)⟩
      ·rw [if_neg c41] at H
       have c41b0 : (t108 == 92) = false := beq_eq_false_iff_ne.mpr c41
       have c41b1 : (t108 != 92) = true := bne_iff_ne.mpr c41
       simp only [Option.some.injEq, Prod.mk.injEq] at H
       obtain ⟨rfl, rfl, rfl, rfl, rfl⟩ := H
       go_enter Tryz.func120, Tryz.ntmps120
       go_wp2_with (first | ((with_reducible refine gate_dst (N := 2) rfl ?_); refine box_event ?hg (N := 2) ?hd (cs := #[.int .i64 0, .int .i64 0, .string (⟨#[]⟩ : ByteArray), .int .i32 0]) (t := 77) ?hr ?_; (case hd => rfl); (case hg => rfl); (case hr => first | (go_simp; done) | (go_simp; rfl)); intro gb101 hg w46 hbox hb; have n0_ := Aside0.mk (below_step (by repeat (first | (with_reducible first | exact HB.out | apply below_alloc | apply pw_below_drewN | apply below_drew1) | exact HB.out)) hb); have n1_ := Aside0.mk (hbox); have n2_ := Aside0.mk ((by rw [hg]; exact (below_size (by repeat (first | (with_reducible first | exact HB.out | apply below_alloc | apply pw_below_drewN | apply below_drew1) | exact HB.out))) : w.heap.size ≤ gb101)); have n3_ := Aside0.mk ((by rw [hg]; exact (below_size (by repeat (first | (with_reducible first | exact HB.out | apply below_alloc | apply pw_below_drewN | apply below_drew1) | exact HB.out))) : w.heap.size ≤ gb101)); clear HB; have HB := n0_; have BK101 := n1_; have GW101 := n2_; have GE101 := n3_; clear n0_ n1_ n2_ n3_; clear hb hbox hg) | ((with_reducible refine gate_callee (f := 140) rfl ?_); refine goesL_ (some 7) rfl rfl Tryz.func140 (by kernel_rfl) rfl #[.string a0, .string (⟨#[39, 92, 117, 123]⟩ : ByteArray)] rfl (by (try simp only [List.map_toArray, List.map_cons, List.map_nil]); first | done | rfl | (simp only [List.length_drop, List.length_take]; rfl)) ?_; (with_reducible refine (strings_HasPrefix.calls a0 (⟨#[39, 92, 117, 123]⟩ : ByteArray) false _ A2.out).mono ?_); rintro e w47 ⟨rfl, hb⟩; refine ⟨_, rfl, ?_⟩; have n0_ := Aside0.mk (blk_below (g := gb101) (o := .cells #[.int .i64 0, .int .i64 0, .string (⟨#[]⟩ : ByteArray), .int .i32 0] 77 (0, 0)) (by (with_reducible repeat (first | refine blk_drewN ?_ _ | refine blk_drew ?_ | refine blk_alloc ?_ _)); exact BK101.out) hb); have n1_ := Aside0.mk (below_step (by repeat (first | (with_reducible first | exact HB.out | apply below_alloc | apply pw_below_drewN | apply below_drew1 | refine below_set ?_ GE101.out) | exact HB.out)) hb); clear BK101; clear HB; have BK101 := n0_; have HB := n1_; clear n0_ n1_; (try clear hb); (try clear hb2); (try clear hk); (try clear hi)) | ((with_reducible refine gate_callee (f := 142) rfl ?_); refine goesL_ (some 15) rfl rfl Tryz.func142 (by kernel_rfl) rfl #[.string (a0.extract 1 a0.size)] rfl (by (try simp only [List.map_toArray, List.map_cons, List.map_nil]); first | done | rfl | (simp only [List.length_drop, List.length_take]; rfl)) ?_; (with_reducible refine (utf8_DecodeRuneInString.calls (a0.extract 1 a0.size) t108 t109 _ A10.out).mono ?_); rintro e w48 ⟨rfl, hb⟩; refine ⟨_, rfl, ?_⟩; have n0_ := Aside0.mk (blk_below (g := gb101) (o := .cells #[.int .i64 0, .int .i64 0, .string (⟨#[]⟩ : ByteArray), .int .i32 0] 77 (0, 0)) (by (with_reducible repeat (first | refine blk_drewN ?_ _ | refine blk_drew ?_ | refine blk_alloc ?_ _)); exact BK101.out) hb); have n1_ := Aside0.mk (below_step (by repeat (first | (with_reducible first | exact HB.out | apply below_alloc | apply pw_below_drewN | apply below_drew1 | refine below_set ?_ GE101.out) | exact HB.out)) hb); clear BK101; clear HB; have BK101 := n0_; have HB := n1_; clear n0_ n1_; (try clear hb); (try clear hb2); (try clear hk); (try clear hi); have hcz49_0 : w48.cell? ⟨gb101, 0, none⟩ = some (.int .i64 0) := (blk_cell BK101.out 0).trans rfl; have hcz49_1 : w48.cell? ⟨gb101, 1, none⟩ = some (.int .i64 0) := (blk_cell BK101.out 1).trans rfl; have hcz49_2 : w48.cell? ⟨gb101, 2, none⟩ = some (.string (⟨#[]⟩ : ByteArray)) := (blk_cell BK101.out 2).trans rfl; have hcz49_3 : w48.cell? ⟨gb101, 3, none⟩ = some (.int .i32 0) := (blk_cell BK101.out 3).trans rfl; have hfz49_0 := blk_frozen BK101.out 0; have hfz49_1 := blk_frozen BK101.out 1; have hfz49_2 := blk_frozen BK101.out 2; have hfz49_3 := blk_frozen BK101.out 3))
       refine bodyPost_ret (results_ct rfl _ _ gb101 77 #[.int .i64 4, .int .i64 0, .string (⟨#[]⟩ : ByteArray), .int .i32 t108] (0, 0) _ rfl (by (with_reducible repeat (first | refine blk_drewN ?_ _ | refine blk_drew ?_ | refine blk_alloc ?_ _)); refine blk_put (cs := #[.int .i64 4, .int .i64 0, .string (⟨#[]⟩ : ByteArray), .int .i32 0]) ?_ 3 _ rfl; (with_reducible repeat (first | refine blk_drewN ?_ _ | refine blk_drew ?_ | refine blk_alloc ?_ _)); refine blk_put (cs := #[.int .i64 4, .int .i64 0, .string (⟨#[]⟩ : ByteArray), .int .i32 0]) ?_ 2 _ rfl; (with_reducible repeat (first | refine blk_drewN ?_ _ | refine blk_drew ?_ | refine blk_alloc ?_ _)); refine blk_put (cs := #[.int .i64 4, .int .i64 0, .string (⟨#[]⟩ : ByteArray), .int .i32 0]) ?_ 1 _ rfl; (with_reducible repeat (first | refine blk_drewN ?_ _ | refine blk_drew ?_ | refine blk_alloc ?_ _)); refine blk_put (cs := #[.int .i64 0, .int .i64 0, .string (⟨#[]⟩ : ByteArray), .int .i32 0]) ?_ 0 _ rfl; (with_reducible repeat (first | refine blk_drewN ?_ _ | refine blk_drew ?_ | refine blk_alloc ?_ _)); exact BK101.out) Tryz.underlying77 rfl (by kernel_rfl)) rfl ?_
       exact ⟨by first | rfl | (simp [errW_none, errW_some] <;> rfl) | (simp [*, errW_none, errW_some] <;> rfl), by repeat (first | (with_reducible first | exact HB.out | apply below_alloc | apply pw_below_drewN | apply below_drew1 | refine below_set ?_ GE101.out) | exact HB.out)⟩
  ·rw [if_neg c9] at H
   exact absurd H (by simp)

def lex_sign.j0 : Nat → ByteArray → Int → Bool → Option (Int × Int × ByteArray × Int × Int)
 | 0, _, _, _ => none
 | k + 1, x0, x4, x5 => if x5 = true then (if 0 ≤ 2 then (if 2 ≤ (x0.size : Int) then (some (6, 0, x0.extract 0 2, 0, 2)) else (none)) else (none)) else (if 0 < (x0.size : Int) then ((strings_IndexByte.f (⟨#[91, 93, 40, 41, 124, 42, 43, 63, 46, 94, 45, 58, 61]⟩ : ByteArray) (bt x0 0)).bind fun t113 => (if t113 ≥ 0 then (if 0 ≤ 1 then (if 1 ≤ (x0.size : Int) then (some (6, 0, x0.extract 0 1, 0, 1)) else (none)) else (none)) else (if 0 ≤ x4 then (if x4 ≤ (x0.size : Int) then (some (6, 0, x0.extract 0 (x4 : Int).toNat, 0, x4)) else (none)) else (none)))) else (none))
def lex_sign.f (k : Nat) (a0 : ByteArray) : Option (Int × Int × ByteArray × Int × Int) := (strings_HasPrefix.f a0 (⟨#[62, 60]⟩ : ByteArray)).bind fun t111 => (if t111 = true then (lex_sign.j0 k a0 0 true) else ((strings_HasPrefix.f a0 (⟨#[60, 62]⟩ : ByteArray)).bind fun t112 => (lex_sign.j0 k a0 0 t112)))
theorem lex_sign.mono_l : ∀ k, (∀ y0 y1 y2, LeO (lex_sign.j0 k y0 y1 y2) (lex_sign.j0 (k + 1) y0 y1 y2))
 | 0 => fun _ _ _ r h => by simp [lex_sign.j0] at h
 | k + 1 => by
  have ih0 := lex_sign.mono_l k
  ·intro y0 y1 y2
   unfold lex_sign.j0
   repeat' first
   | (with_reducible exact ih0 _ _ _)
   | (with_reducible exact LeO.refl _)
   | (with_reducible exact LeO.none _)
   | (with_reducible refine LeO.ite ?_ ?_)
   | (with_reducible refine LeO.bind ?_ (fun _ => ?_))
   | exact ih0 _ _ _
   | exact LeO.none _
   | refine LeO.ite ?_ ?_
   | refine LeO.bind ?_ (fun _ => ?_)
theorem lex_sign.mono : ∀ a0 k, LeO (lex_sign.f k a0) (lex_sign.f (k + 1) a0) := by
 intro a0 k
 have ih0 := lex_sign.mono_l k
 unfold lex_sign.f
 repeat' first
   | (with_reducible exact ih0 _ _ _)
   | (with_reducible exact LeO.refl _)
   | (with_reducible exact LeO.none _)
   | (with_reducible refine LeO.ite ?_ ?_)
   | (with_reducible refine LeO.bind ?_ (fun _ => ?_))
   | exact ih0 _ _ _
   | exact LeO.none _
   | refine LeO.ite ?_ ?_
   | refine LeO.bind ?_ (fun _ => ?_)
set_option maxHeartbeats 8000000 in
set_option maxRecDepth 100000 in
theorem lex_sign.calls (k : Nat) (a0 : ByteArray) (r1 : Int) (r2 : Int) (r3 : ByteArray) (r4 : Int) (r5 : Int) (w : World) (h : lex_sign.f k a0 = some (r1, r2, r3, r4, r5)) :
  Calls Tryz.prog 122 #[.string a0] w fun e w' => e = .returned (.tuple #[.agg #[.int .i64 r1, .int .i64 r2, .string r3, .int .i32 r4], .int .i64 r5]) ∧ Below w.heap.size w w' := by
 have hu77 := Tryz.underlying77
 have HB := Aside0.mk (Below.refl w.heap.size w)
 have H : ((strings_HasPrefix.f a0 (⟨#[62, 60]⟩ : ByteArray)).bind fun t111 => (if t111 = true then (lex_sign.j0 k a0 0 true) else ((strings_HasPrefix.f a0 (⟨#[60, 62]⟩ : ByteArray)).bind fun t112 => (lex_sign.j0 k a0 0 t112)))) = some (r1, r2, r3, r4, r5) := h
 clear h
 have HC2 := Aside0.mk H
 clear H
 go_enter Tryz.func122, Tryz.ntmps122
 go_upto_region 2 with (first | ((with_reducible refine gate_dst (N := 2) rfl ?_); refine box_event ?hg (N := 2) ?hd (cs := #[.int .i64 0, .int .i64 0, .string (⟨#[]⟩ : ByteArray), .int .i32 0]) (t := 77) ?hr ?_; (case hd => rfl); (case hg => rfl); (case hr => first | (go_simp; done) | (go_simp; rfl)); intro gb110 hg w3 hbox hb; have n0_ := Aside0.mk (below_step (by repeat (first | (with_reducible first | exact HB.out | apply below_alloc | apply pw_below_drewN | apply below_drew1) | exact HB.out)) hb); have n1_ := Aside0.mk (hbox); have n2_ := Aside0.mk ((by rw [hg]; exact (below_size (by repeat (first | (with_reducible first | exact HB.out | apply below_alloc | apply pw_below_drewN | apply below_drew1) | exact HB.out))) : w.heap.size ≤ gb110)); have n3_ := Aside0.mk ((by rw [hg]; exact (below_size (by repeat (first | (with_reducible first | exact HB.out | apply below_alloc | apply pw_below_drewN | apply below_drew1) | exact HB.out))) : w.heap.size ≤ gb110)); clear HB; have HB := n0_; have BK110 := n1_; have GW110 := n2_; have GE110 := n3_; clear n0_ n1_ n2_ n3_; clear hb hbox hg))
 (try simp only [Act.put, List.setIfInBounds_toArray, List.set_cons_zero, List.set_cons_succ])
 go_cut [5] (fun v5 wc => ∃ (kq : Nat) (x5_1 : Bool), v5 = .bool x5_1 ∧ Aside0 (lex_sign.j0 kq a0 0 x5_1 = some (r1, r2, r3, r4, r5)) ∧ Aside0 (kq ≤ k) ∧ Aside0 (wc.heap[gb110]? = some (.cells #[.int .i64 0, .int .i64 0, .string (⟨#[]⟩ : ByteArray), .int .i32 0] 77 (0, 0))) ∧ Aside0 (Below w.heap.size w wc))
 case first =>
  have H := HC2.out
  clear HC2
  replace H := Option.bind_eq_some_iff.mp H
  obtain ⟨t111, A40, H⟩ := H
  replace H : (if t111 = true then (lex_sign.j0 k a0 0 true) else ((strings_HasPrefix.f a0 (⟨#[60, 62]⟩ : ByteArray)).bind fun t112 => (lex_sign.j0 k a0 0 t112))) = some (r1, r2, r3, r4, r5) := H
  have A4 := Aside0.mk A40
  clear A40
  by_cases c5 : t111 = true
  ·subst c5
   have H1 : (lex_sign.j0 k a0 0 true) = some (r1, r2, r3, r4, r5) := by rw [if_pos rfl] at H; exact H
   clear H
   have H := H1
   clear H1
   have H' := Aside0.mk H
   clear H
   go_wp2_with (first | ((with_reducible refine gate_callee (f := 140) rfl ?_); refine goesL_ (some 7) rfl rfl Tryz.func140 (by kernel_rfl) rfl #[.string a0, .string (⟨#[62, 60]⟩ : ByteArray)] rfl (by (try simp only [List.map_toArray, List.map_cons, List.map_nil]); first | done | rfl | (simp only [List.length_drop, List.length_take]; rfl)) ?_; (with_reducible refine (strings_HasPrefix.calls a0 (⟨#[62, 60]⟩ : ByteArray) true _ A4.out).mono ?_); rintro e w6 ⟨rfl, hb⟩; refine ⟨_, rfl, ?_⟩; have n0_ := Aside0.mk (blk_below (g := gb110) (o := .cells #[.int .i64 0, .int .i64 0, .string (⟨#[]⟩ : ByteArray), .int .i32 0] 77 (0, 0)) (by (with_reducible repeat (first | refine blk_drewN ?_ _ | refine blk_drew ?_ | refine blk_alloc ?_ _)); exact BK110.out) hb); have n1_ := Aside0.mk (below_step (by repeat (first | (with_reducible first | exact HB.out | apply below_alloc | apply pw_below_drewN | apply below_drew1 | refine below_set ?_ GE110.out) | exact HB.out)) hb); clear BK110; clear HB; have BK110 := n0_; have HB := n1_; clear n0_ n1_; (try clear hb); (try clear hb2); (try clear hk); (try clear hi)))
   go_meet
   case rel => exact ⟨_, (true), (by first | rfl | (simp; done) | (simp [*]; done)), H', ⟨by first | omega | exact Nat.le_refl _⟩, ⟨by (with_reducible repeat (first | refine blk_drewN ?_ _ | refine blk_drew ?_ | refine blk_alloc ?_ _)); exact BK110.out⟩, ⟨by repeat (first | (with_reducible first | exact HB.out | apply below_alloc | apply pw_below_drewN | apply below_drew1 | refine below_set ?_ GE110.out) | exact HB.out)⟩⟩
  ·replace c5 := Bool.eq_false_iff.mpr c5
   subst c5
   have H1 : ((strings_HasPrefix.f a0 (⟨#[60, 62]⟩ : ByteArray)).bind fun t112 => (lex_sign.j0 k a0 0 t112)) = some (r1, r2, r3, r4, r5) := by rw [if_neg (show ¬ (false = true) by decide)] at H; exact H
   clear H
   have H := H1
   clear H1
   replace H := Option.bind_eq_some_iff.mp H
   obtain ⟨t112, A70, H⟩ := H
   replace H : (lex_sign.j0 k a0 0 t112) = some (r1, r2, r3, r4, r5) := H
   have A7 := Aside0.mk A70
   clear A70
   have H' := Aside0.mk H
   clear H
   go_wp2_with (first | ((with_reducible refine gate_callee (f := 140) rfl ?_); refine goesL_ (some 7) rfl rfl Tryz.func140 (by kernel_rfl) rfl #[.string a0, .string (⟨#[62, 60]⟩ : ByteArray)] rfl (by (try simp only [List.map_toArray, List.map_cons, List.map_nil]); first | done | rfl | (simp only [List.length_drop, List.length_take]; rfl)) ?_; (with_reducible refine (strings_HasPrefix.calls a0 (⟨#[62, 60]⟩ : ByteArray) false _ A4.out).mono ?_); rintro e w8 ⟨rfl, hb⟩; refine ⟨_, rfl, ?_⟩; have n0_ := Aside0.mk (blk_below (g := gb110) (o := .cells #[.int .i64 0, .int .i64 0, .string (⟨#[]⟩ : ByteArray), .int .i32 0] 77 (0, 0)) (by (with_reducible repeat (first | refine blk_drewN ?_ _ | refine blk_drew ?_ | refine blk_alloc ?_ _)); exact BK110.out) hb); have n1_ := Aside0.mk (below_step (by repeat (first | (with_reducible first | exact HB.out | apply below_alloc | apply pw_below_drewN | apply below_drew1 | refine below_set ?_ GE110.out) | exact HB.out)) hb); clear BK110; clear HB; have BK110 := n0_; have HB := n1_; clear n0_ n1_; (try clear hb); (try clear hb2); (try clear hk); (try clear hi)) | (go_at_call 140; (with_reducible refine (strings_HasPrefix.calls a0 (⟨#[60, 62]⟩ : ByteArray) t112 _ A7.out).mono ?_); rintro e w9 ⟨rfl, hb⟩; have n0_ := Aside0.mk (blk_below (g := gb110) (o := .cells #[.int .i64 0, .int .i64 0, .string (⟨#[]⟩ : ByteArray), .int .i32 0] 77 (0, 0)) (by (with_reducible repeat (first | refine blk_drewN ?_ _ | refine blk_drew ?_ | refine blk_alloc ?_ _)); exact BK110.out) hb); have n1_ := Aside0.mk (below_step (by repeat (first | (with_reducible first | exact HB.out | apply below_alloc | apply pw_below_drewN | apply below_drew1 | refine below_set ?_ GE110.out) | exact HB.out)) hb); clear BK110; clear HB; have BK110 := n0_; have HB := n1_; clear n0_ n1_; (try clear hb); (try clear hb2); (try clear hk); (try clear hi)))
   go_meet
   case rel => exact ⟨_, (t112), (by first | rfl | (simp; done) | (simp [*]; done)), H', ⟨by first | omega | exact Nat.le_refl _⟩, ⟨by (with_reducible repeat (first | refine blk_drewN ?_ _ | refine blk_drew ?_ | refine blk_alloc ?_ _)); exact BK110.out⟩, ⟨by repeat (first | (with_reducible first | exact HB.out | apply below_alloc | apply pw_below_drewN | apply below_drew1 | refine below_set ?_ GE110.out) | exact HB.out)⟩⟩
 case rest =>
  clear HC2
  try clear c1
  try clear p2
  try clear c5
  obtain ⟨kq, x5_1, rfl, HA, HJ1, BK110, HB⟩ := hcut
  cases kq with
  | zero => exact absurd HA.out (by simp [lex_sign.j0])
  | succ kj1 =>
   have H := HA.out
   clear HA
   simp only [lex_sign.j0] at H
   by_cases c10 : x5_1 = true
   ·subst c10
    have H1 : (if 0 ≤ 2 then (if 2 ≤ (a0.size : Int) then (some (6, 0, a0.extract 0 2, 0, 2)) else (none)) else (none)) = some (r1, r2, r3, r4, r5) := by rw [if_pos rfl] at H; exact H
    clear H
    have H := H1
    clear H1
    by_cases c11 : 0 ≤ 2
    ·rw [if_pos c11] at H
     have c11b0 := eq_true c11
     have c11b1 : decide (0 ≤ 2) = true := decide_eq_true c11
     clear c11
     by_cases c12 : 2 ≤ (a0.size : Int)
     ·rw [if_pos c12] at H
      have c12b0 := eq_true c12
      have c12b1 : decide (2 ≤ (a0.size : Int)) = true := decide_eq_true c12
      clear c12
      simp only [Option.some.injEq, Prod.mk.injEq] at H
      obtain ⟨rfl, rfl, rfl, rfl, rfl⟩ := H
      have hcz13_0 : wc.cell? ⟨gb110, 0, none⟩ = some (.int .i64 0) := (blk_cell BK110.out 0).trans rfl
      have hcz13_1 : wc.cell? ⟨gb110, 1, none⟩ = some (.int .i64 0) := (blk_cell BK110.out 1).trans rfl
      have hcz13_2 : wc.cell? ⟨gb110, 2, none⟩ = some (.string (⟨#[]⟩ : ByteArray)) := (blk_cell BK110.out 2).trans rfl
      have hcz13_3 : wc.cell? ⟨gb110, 3, none⟩ = some (.int .i32 0) := (blk_cell BK110.out 3).trans rfl
      have hfz13_0 := blk_frozen BK110.out 0
      have hfz13_1 := blk_frozen BK110.out 1
      have hfz13_2 := blk_frozen BK110.out 2
      have hfz13_3 := blk_frozen BK110.out 3
      go_wp2
      refine bodyPost_ret (results_ct rfl _ _ gb110 77 #[.int .i64 6, .int .i64 0, .string (a0.extract 0 2), .int .i32 0] (0, 0) _ rfl (by (with_reducible repeat (first | refine blk_drewN ?_ _ | refine blk_drew ?_ | refine blk_alloc ?_ _)); refine blk_put (cs := #[.int .i64 6, .int .i64 0, .string (a0.extract 0 2), .int .i32 0]) ?_ 3 _ rfl; (with_reducible repeat (first | refine blk_drewN ?_ _ | refine blk_drew ?_ | refine blk_alloc ?_ _)); refine blk_put (cs := #[.int .i64 6, .int .i64 0, .string (⟨#[]⟩ : ByteArray), .int .i32 0]) ?_ 2 _ rfl; (with_reducible repeat (first | refine blk_drewN ?_ _ | refine blk_drew ?_ | refine blk_alloc ?_ _)); refine blk_put (cs := #[.int .i64 6, .int .i64 0, .string (⟨#[]⟩ : ByteArray), .int .i32 0]) ?_ 1 _ rfl; (with_reducible repeat (first | refine blk_drewN ?_ _ | refine blk_drew ?_ | refine blk_alloc ?_ _)); refine blk_put (cs := #[.int .i64 0, .int .i64 0, .string (⟨#[]⟩ : ByteArray), .int .i32 0]) ?_ 0 _ rfl; (with_reducible repeat (first | refine blk_drewN ?_ _ | refine blk_drew ?_ | refine blk_alloc ?_ _)); exact BK110.out) Tryz.underlying77 rfl (by kernel_rfl)) rfl ?_
      exact ⟨by first | rfl | (simp [errW_none, errW_some] <;> rfl) | (simp [*, errW_none, errW_some] <;> rfl), by repeat (first | (with_reducible first | exact HB.out | apply below_alloc | apply pw_below_drewN | apply below_drew1 | refine below_set ?_ GE110.out) | exact HB.out)⟩
     ·rw [if_neg c12] at H
      exact absurd H (by simp)
    ·rw [if_neg c11] at H
     exact absurd H (by simp)
   ·replace c10 := Bool.eq_false_iff.mpr c10
    subst c10
    have H1 : (if 0 < (a0.size : Int) then ((strings_IndexByte.f (⟨#[91, 93, 40, 41, 124, 42, 43, 63, 46, 94, 45, 58, 61]⟩ : ByteArray) (bt a0 0)).bind fun t113 => (if t113 ≥ 0 then (if 0 ≤ 1 then (if 1 ≤ (a0.size : Int) then (some (6, 0, a0.extract 0 1, 0, 1)) else (none)) else (none)) else (if 0 ≤ 0 then (if 0 ≤ (a0.size : Int) then (some (6, 0, a0.extract 0 (0 : Int).toNat, 0, 0)) else (none)) else (none)))) else (none)) = some (r1, r2, r3, r4, r5) := by rw [if_neg (show ¬ (false = true) by decide)] at H; exact H
    clear H
    have H := H1
    clear H1
    by_cases c14 : 0 < (a0.size : Int)
    ·rw [if_pos c14] at H
     have c14b0 : decide (0 < (a0.size : Int)) = true := decide_eq_true c14
     have c14b1 : decide (0 < a0.size) = true := decide_eq_true (by omega)
     clear c14
     replace H := Option.bind_eq_some_iff.mp H
     obtain ⟨t113, A160, H⟩ := H
     replace H : (if t113 ≥ 0 then (if 0 ≤ 1 then (if 1 ≤ (a0.size : Int) then (some (6, 0, a0.extract 0 1, 0, 1)) else (none)) else (none)) else (if 0 ≤ 0 then (if 0 ≤ (a0.size : Int) then (some (6, 0, a0.extract 0 (0 : Int).toNat, 0, 0)) else (none)) else (none))) = some (r1, r2, r3, r4, r5) := H
     have A16 := Aside0.mk A160
     clear A160
     by_cases c17 : t113 ≥ 0
     ·rw [if_pos c17] at H
      have c17b0 : decide (0 ≤ t113) = true := decide_eq_true c17
      clear c17
      by_cases c18 : 0 ≤ 1
      ·rw [if_pos c18] at H
       have c18b0 := eq_true c18
       have c18b1 : decide (0 ≤ 1) = true := decide_eq_true c18
       clear c18
       by_cases c19 : 1 ≤ (a0.size : Int)
       ·rw [if_pos c19] at H
        have c19b0 := eq_true c19
        have c19b1 : decide (1 ≤ (a0.size : Int)) = true := decide_eq_true c19
        clear c19
        simp only [Option.some.injEq, Prod.mk.injEq] at H
        obtain ⟨rfl, rfl, rfl, rfl, rfl⟩ := H
        have p15 : 0 ≤ (0 : Int) := (by omega)
        have q15 : 0 < a0.size := (by have : (0 : Int) < (a0.size : Int) := of_decide_eq_true (by first | (with_reducible assumption) | assumption); omega)
        have hx15 : ∀ h : 0 < a0.size, ((a0[0]'h).toNat : Int) = bt a0 0 := bt_at a0 0
        clear p15
        have qi15 : (0 < (a0.size : Int)) = True := eq_true (of_decide_eq_true (by first | (with_reducible assumption) | assumption))
        replace q15 := eq_true q15
        go_wp2_with (first | ((with_reducible refine gate_callee (f := 143) rfl ?_); refine goesL_ (some 15) rfl rfl Tryz.func143 (by kernel_rfl) rfl #[.string (⟨#[91, 93, 40, 41, 124, 42, 43, 63, 46, 94, 45, 58, 61]⟩ : ByteArray), .int .u8 (bt a0 0)] rfl (by (try simp only [List.map_toArray, List.map_cons, List.map_nil]); first | done | rfl | (simp only [List.length_drop, List.length_take]; rfl)) ?_; (with_reducible refine (strings_IndexByte.calls (⟨#[91, 93, 40, 41, 124, 42, 43, 63, 46, 94, 45, 58, 61]⟩ : ByteArray) (bt a0 0) t113 _ A16.out).mono ?_); rintro e w20 ⟨rfl, hb⟩; refine ⟨_, rfl, ?_⟩; have n0_ := Aside0.mk (blk_below (g := gb110) (o := .cells #[.int .i64 0, .int .i64 0, .string (⟨#[]⟩ : ByteArray), .int .i32 0] 77 (0, 0)) (by (with_reducible repeat (first | refine blk_drewN ?_ _ | refine blk_drew ?_ | refine blk_alloc ?_ _)); exact BK110.out) hb); have n1_ := Aside0.mk (below_step (by repeat (first | (with_reducible first | exact HB.out | apply below_alloc | apply pw_below_drewN | apply below_drew1 | refine below_set ?_ GE110.out) | exact HB.out)) hb); clear BK110; clear HB; have BK110 := n0_; have HB := n1_; clear n0_ n1_; (try clear hb); (try clear hb2); (try clear hk); (try clear hi); have hcz21_0 : w20.cell? ⟨gb110, 0, none⟩ = some (.int .i64 0) := (blk_cell BK110.out 0).trans rfl; have hcz21_1 : w20.cell? ⟨gb110, 1, none⟩ = some (.int .i64 0) := (blk_cell BK110.out 1).trans rfl; have hcz21_2 : w20.cell? ⟨gb110, 2, none⟩ = some (.string (⟨#[]⟩ : ByteArray)) := (blk_cell BK110.out 2).trans rfl; have hcz21_3 : w20.cell? ⟨gb110, 3, none⟩ = some (.int .i32 0) := (blk_cell BK110.out 3).trans rfl; have hfz21_0 := blk_frozen BK110.out 0; have hfz21_1 := blk_frozen BK110.out 1; have hfz21_2 := blk_frozen BK110.out 2; have hfz21_3 := blk_frozen BK110.out 3))
        refine bodyPost_ret (results_ct rfl _ _ gb110 77 #[.int .i64 6, .int .i64 0, .string (a0.extract 0 1), .int .i32 0] (0, 0) _ rfl (by (with_reducible repeat (first | refine blk_drewN ?_ _ | refine blk_drew ?_ | refine blk_alloc ?_ _)); refine blk_put (cs := #[.int .i64 6, .int .i64 0, .string (a0.extract 0 1), .int .i32 0]) ?_ 3 _ rfl; (with_reducible repeat (first | refine blk_drewN ?_ _ | refine blk_drew ?_ | refine blk_alloc ?_ _)); refine blk_put (cs := #[.int .i64 6, .int .i64 0, .string (⟨#[]⟩ : ByteArray), .int .i32 0]) ?_ 2 _ rfl; (with_reducible repeat (first | refine blk_drewN ?_ _ | refine blk_drew ?_ | refine blk_alloc ?_ _)); refine blk_put (cs := #[.int .i64 6, .int .i64 0, .string (⟨#[]⟩ : ByteArray), .int .i32 0]) ?_ 1 _ rfl; (with_reducible repeat (first | refine blk_drewN ?_ _ | refine blk_drew ?_ | refine blk_alloc ?_ _)); refine blk_put (cs := #[.int .i64 0, .int .i64 0, .string (⟨#[]⟩ : ByteArray), .int .i32 0]) ?_ 0 _ rfl; (with_reducible repeat (first | refine blk_drewN ?_ _ | refine blk_drew ?_ | refine blk_alloc ?_ _)); exact BK110.out) Tryz.underlying77 rfl (by kernel_rfl)) rfl ?_
        exact ⟨by first | rfl | (simp [errW_none, errW_some] <;> rfl) | (simp [*, errW_none, errW_some] <;> rfl), by repeat (first | (with_reducible first | exact HB.out | apply below_alloc | apply pw_below_drewN | apply below_drew1 | refine below_set ?_ GE110.out) | exact HB.out)⟩
       ·rw [if_neg c19] at H
        exact absurd H (by simp)
      ·rw [if_neg c18] at H
       exact absurd H (by simp)
     ·rw [if_neg c17] at H
      have c17b0 : decide (0 ≤ t113) = false := decide_eq_false c17
      clear c17
      by_cases c22 : 0 ≤ 0
      ·rw [if_pos c22] at H
       have c22b0 := eq_true c22
       have c22b1 : decide (0 ≤ 0) = true := decide_eq_true c22
       clear c22
       by_cases c23 : 0 ≤ (a0.size : Int)
       ·rw [if_pos c23] at H
        have c23b0 := eq_true c23
        have c23b1 : decide (0 ≤ (a0.size : Int)) = true := decide_eq_true c23
        clear c23
        simp only [Option.some.injEq, Prod.mk.injEq] at H
        obtain ⟨rfl, rfl, rfl, rfl, rfl⟩ := H
        have p15 : 0 ≤ (0 : Int) := (by omega)
        have q15 : 0 < a0.size := (by have : (0 : Int) < (a0.size : Int) := of_decide_eq_true (by first | (with_reducible assumption) | assumption); omega)
        have hx15 : ∀ h : 0 < a0.size, ((a0[0]'h).toNat : Int) = bt a0 0 := bt_at a0 0
        clear p15
        have qi15 : (0 < (a0.size : Int)) = True := eq_true (of_decide_eq_true (by first | (with_reducible assumption) | assumption))
        replace q15 := eq_true q15
        go_wp2_with (first | ((with_reducible refine gate_callee (f := 143) rfl ?_); refine goesL_ (some 15) rfl rfl Tryz.func143 (by kernel_rfl) rfl #[.string (⟨#[91, 93, 40, 41, 124, 42, 43, 63, 46, 94, 45, 58, 61]⟩ : ByteArray), .int .u8 (bt a0 0)] rfl (by (try simp only [List.map_toArray, List.map_cons, List.map_nil]); first | done | rfl | (simp only [List.length_drop, List.length_take]; rfl)) ?_; (with_reducible refine (strings_IndexByte.calls (⟨#[91, 93, 40, 41, 124, 42, 43, 63, 46, 94, 45, 58, 61]⟩ : ByteArray) (bt a0 0) t113 _ A16.out).mono ?_); rintro e w24 ⟨rfl, hb⟩; refine ⟨_, rfl, ?_⟩; have n0_ := Aside0.mk (blk_below (g := gb110) (o := .cells #[.int .i64 0, .int .i64 0, .string (⟨#[]⟩ : ByteArray), .int .i32 0] 77 (0, 0)) (by (with_reducible repeat (first | refine blk_drewN ?_ _ | refine blk_drew ?_ | refine blk_alloc ?_ _)); exact BK110.out) hb); have n1_ := Aside0.mk (below_step (by repeat (first | (with_reducible first | exact HB.out | apply below_alloc | apply pw_below_drewN | apply below_drew1 | refine below_set ?_ GE110.out) | exact HB.out)) hb); clear BK110; clear HB; have BK110 := n0_; have HB := n1_; clear n0_ n1_; (try clear hb); (try clear hb2); (try clear hk); (try clear hi); have hcz25_0 : w24.cell? ⟨gb110, 0, none⟩ = some (.int .i64 0) := (blk_cell BK110.out 0).trans rfl; have hcz25_1 : w24.cell? ⟨gb110, 1, none⟩ = some (.int .i64 0) := (blk_cell BK110.out 1).trans rfl; have hcz25_2 : w24.cell? ⟨gb110, 2, none⟩ = some (.string (⟨#[]⟩ : ByteArray)) := (blk_cell BK110.out 2).trans rfl; have hcz25_3 : w24.cell? ⟨gb110, 3, none⟩ = some (.int .i32 0) := (blk_cell BK110.out 3).trans rfl; have hfz25_0 := blk_frozen BK110.out 0; have hfz25_1 := blk_frozen BK110.out 1; have hfz25_2 := blk_frozen BK110.out 2; have hfz25_3 := blk_frozen BK110.out 3))
        (try rw [show ByteArray.empty = a0.extract 0 (0 : Int).toNat from (by simp)]); refine bodyPost_ret (results_ct rfl _ _ gb110 77 #[.int .i64 6, .int .i64 0, .string (a0.extract 0 (0 : Int).toNat), .int .i32 0] (0, 0) _ rfl (by (with_reducible repeat (first | refine blk_drewN ?_ _ | refine blk_drew ?_ | refine blk_alloc ?_ _)); refine blk_put (cs := #[.int .i64 6, .int .i64 0, .string (a0.extract 0 (0 : Int).toNat), .int .i32 0]) ?_ 3 _ rfl; (with_reducible repeat (first | refine blk_drewN ?_ _ | refine blk_drew ?_ | refine blk_alloc ?_ _)); refine blk_put (cs := #[.int .i64 6, .int .i64 0, .string (⟨#[]⟩ : ByteArray), .int .i32 0]) ?_ 2 _ rfl; (with_reducible repeat (first | refine blk_drewN ?_ _ | refine blk_drew ?_ | refine blk_alloc ?_ _)); refine blk_put (cs := #[.int .i64 6, .int .i64 0, .string (⟨#[]⟩ : ByteArray), .int .i32 0]) ?_ 1 _ rfl; (with_reducible repeat (first | refine blk_drewN ?_ _ | refine blk_drew ?_ | refine blk_alloc ?_ _)); refine blk_put (cs := #[.int .i64 0, .int .i64 0, .string (⟨#[]⟩ : ByteArray), .int .i32 0]) ?_ 0 _ rfl; (with_reducible repeat (first | refine blk_drewN ?_ _ | refine blk_drew ?_ | refine blk_alloc ?_ _)); exact BK110.out) Tryz.underlying77 rfl (by kernel_rfl)) rfl ?_
        exact ⟨by first | rfl | (simp [errW_none, errW_some] <;> rfl) | (simp [*, errW_none, errW_some] <;> rfl), by repeat (first | (with_reducible first | exact HB.out | apply below_alloc | apply pw_below_drewN | apply below_drew1 | refine below_set ?_ GE110.out) | exact HB.out)⟩
       ·rw [if_neg c23] at H
        exact absurd H (by simp)
      ·rw [if_neg c22] at H
       exact absurd H (by simp)
    ·rw [if_neg c14] at H
     exact absurd H (by simp)

def lex_one.f (k : Nat) (a0 : ByteArray) : Option (Int × Int × ByteArray × Int × Int) := if 0 < (a0.size : Int) then (if (bt a0 0) = 10 then (some (7, 0, (⟨#[]⟩ : ByteArray), 0, 1)) else (if (bt a0 0) = 36 then ((lex_name.f a0).bind fun bt115 => (some (bt115.1, bt115.2.1, bt115.2.2.1, bt115.2.2.2.1, bt115.2.2.2.2))) else ((lex_digit.f (bt a0 0)).bind fun t120 => (if t120 = true then ((lex_num.f a0).bind fun bt121 => (some (bt121.1, bt121.2.1, bt121.2.2.1, bt121.2.2.2.1, bt121.2.2.2.2))) else ((lex_letter.f (bt a0 0)).bind fun t126 => (if t126 = true then ((lex_ident.f a0).bind fun bt127 => (some (bt127.1, bt127.2.1, bt127.2.2.1, bt127.2.2.2.1, bt127.2.2.2.2))) else (if (bt a0 0) = 34 then ((lex_word.f a0).bind fun bt132 => (some (bt132.1, bt132.2.1, bt132.2.2.1, bt132.2.2.2.1, bt132.2.2.2.2))) else (if (bt a0 0) = 39 then ((lex_char.f a0).bind fun bt137 => (some (bt137.1, bt137.2.1, bt137.2.2.1, bt137.2.2.2.1, bt137.2.2.2.2))) else (if (bt a0 0) = 123 then ((lex_prop.f a0).bind fun bt142 => (some (bt142.1, bt142.2.1, bt142.2.2.1, bt142.2.2.2.1, bt142.2.2.2.2))) else ((lex_sign.f k a0).bind fun bt147 => (some (bt147.1, bt147.2.1, bt147.2.2.1, bt147.2.2.2.1, bt147.2.2.2.2)))))))))))) else (none)
theorem lex_one.mono : ∀ a0 k, LeO (lex_one.f k a0) (lex_one.f (k + 1) a0) := by
 intro a0 k
 unfold lex_one.f
 repeat' first
   | (with_reducible exact lex_sign.mono _ _)
   | (with_reducible exact LeO.refl _)
   | (with_reducible exact LeO.none _)
   | (with_reducible refine LeO.ite ?_ ?_)
   | (with_reducible refine LeO.bind ?_ (fun _ => ?_))
   | exact lex_sign.mono _ _
   | exact LeO.none _
   | refine LeO.ite ?_ ?_
   | refine LeO.bind ?_ (fun _ => ?_)
set_option maxHeartbeats 8000000 in
set_option maxRecDepth 100000 in
theorem lex_one.calls (k : Nat) (a0 : ByteArray) (r1 : Int) (r2 : Int) (r3 : ByteArray) (r4 : Int) (r5 : Int) (w : World) (h : lex_one.f k a0 = some (r1, r2, r3, r4, r5)) :
  Calls Tryz.prog 87 #[.string a0] w fun e w' => e = .returned (.tuple #[.agg #[.int .i64 r1, .int .i64 r2, .string r3, .int .i32 r4], .int .i64 r5]) ∧ Below w.heap.size w w' := by
 have hu77 := Tryz.underlying77
 have HB := Aside0.mk (Below.refl w.heap.size w)
 have H : (if 0 < (a0.size : Int) then (if (bt a0 0) = 10 then (some (7, 0, (⟨#[]⟩ : ByteArray), 0, 1)) else (if (bt a0 0) = 36 then ((lex_name.f a0).bind fun bt115 => (some (bt115.1, bt115.2.1, bt115.2.2.1, bt115.2.2.2.1, bt115.2.2.2.2))) else ((lex_digit.f (bt a0 0)).bind fun t120 => (if t120 = true then ((lex_num.f a0).bind fun bt121 => (some (bt121.1, bt121.2.1, bt121.2.2.1, bt121.2.2.2.1, bt121.2.2.2.2))) else ((lex_letter.f (bt a0 0)).bind fun t126 => (if t126 = true then ((lex_ident.f a0).bind fun bt127 => (some (bt127.1, bt127.2.1, bt127.2.2.1, bt127.2.2.2.1, bt127.2.2.2.2))) else (if (bt a0 0) = 34 then ((lex_word.f a0).bind fun bt132 => (some (bt132.1, bt132.2.1, bt132.2.2.1, bt132.2.2.2.1, bt132.2.2.2.2))) else (if (bt a0 0) = 39 then ((lex_char.f a0).bind fun bt137 => (some (bt137.1, bt137.2.1, bt137.2.2.1, bt137.2.2.2.1, bt137.2.2.2.2))) else (if (bt a0 0) = 123 then ((lex_prop.f a0).bind fun bt142 => (some (bt142.1, bt142.2.1, bt142.2.2.1, bt142.2.2.2.1, bt142.2.2.2.2))) else ((lex_sign.f k a0).bind fun bt147 => (some (bt147.1, bt147.2.1, bt147.2.2.1, bt147.2.2.2.1, bt147.2.2.2.2)))))))))))) else (none)) = some (r1, r2, r3, r4, r5) := h
 clear h
 by_cases c2 : 0 < (a0.size : Int)
 ·rw [if_pos c2] at H
  have c2b0 : decide (0 < (a0.size : Int)) = true := decide_eq_true c2
  have c2b1 : decide (0 < a0.size) = true := decide_eq_true (by omega)
  clear c2
  by_cases c4 : (bt a0 0) = 10
  ·rw [if_pos c4] at H
   have c4b0 : ((bt a0 0) == 10) = true := beq_iff_eq.mpr c4
   have c4b1 : ((bt a0 0) != 10) = false := bne_eq_false_iff_eq.mpr c4
   clear c4
   simp only [Option.some.injEq, Prod.mk.injEq] at H
   obtain ⟨rfl, rfl, rfl, rfl, rfl⟩ := H
   go_enter Tryz.func87, Tryz.ntmps87
   go_wp2_with (first | ((with_reducible refine gate_dst (N := 2) rfl ?_); refine box_event ?hg (N := 2) ?hd (cs := #[.int .i64 0, .int .i64 0, .string (⟨#[]⟩ : ByteArray), .int .i32 0]) (t := 77) ?hr ?_; (case hd => rfl); (case hg => rfl); (case hr => first | (go_simp; done) | (go_simp; rfl)); intro gb114 hg w5 hbox hb; have n0_ := Aside0.mk (below_step (by repeat (first | (with_reducible first | exact HB.out | apply below_alloc | apply pw_below_drewN | apply below_drew1) | exact HB.out)) hb); have n1_ := Aside0.mk (hbox); have n2_ := Aside0.mk ((by rw [hg]; exact (below_size (by repeat (first | (with_reducible first | exact HB.out | apply below_alloc | apply pw_below_drewN | apply below_drew1) | exact HB.out))) : w.heap.size ≤ gb114)); have n3_ := Aside0.mk ((by rw [hg]; exact (below_size (by repeat (first | (with_reducible first | exact HB.out | apply below_alloc | apply pw_below_drewN | apply below_drew1) | exact HB.out))) : w.heap.size ≤ gb114)); clear HB; have HB := n0_; have BK114 := n1_; have GW114 := n2_; have GE114 := n3_; clear n0_ n1_ n2_ n3_; clear hb hbox hg; have p3 : 0 ≤ (0 : Int) := (by omega); have q3 : 0 < a0.size := (by have : (0 : Int) < (a0.size : Int) := of_decide_eq_true (by first | (with_reducible assumption) | assumption); omega); have hx3 : ∀ h : 0 < a0.size, ((a0[0]'h).toNat : Int) = bt a0 0 := bt_at a0 0; clear p3; have qi3 : (0 < (a0.size : Int)) = True := eq_true (of_decide_eq_true (by first | (with_reducible assumption) | assumption)); replace q3 := eq_true q3; have hcz6_0 : w5.cell? ⟨gb114, 0, none⟩ = some (.int .i64 0) := (blk_cell BK114.out 0).trans rfl; have hcz6_1 : w5.cell? ⟨gb114, 1, none⟩ = some (.int .i64 0) := (blk_cell BK114.out 1).trans rfl; have hcz6_2 : w5.cell? ⟨gb114, 2, none⟩ = some (.string (⟨#[]⟩ : ByteArray)) := (blk_cell BK114.out 2).trans rfl; have hcz6_3 : w5.cell? ⟨gb114, 3, none⟩ = some (.int .i32 0) := (blk_cell BK114.out 3).trans rfl; have hfz6_0 := blk_frozen BK114.out 0; have hfz6_1 := blk_frozen BK114.out 1; have hfz6_2 := blk_frozen BK114.out 2; have hfz6_3 := blk_frozen BK114.out 3))
   refine bodyPost_ret (results_ct rfl _ _ gb114 77 #[.int .i64 7, .int .i64 0, .string (⟨#[]⟩ : ByteArray), .int .i32 0] (0, 0) _ rfl (by (with_reducible repeat (first | refine blk_drewN ?_ _ | refine blk_drew ?_ | refine blk_alloc ?_ _)); refine blk_put (cs := #[.int .i64 7, .int .i64 0, .string (⟨#[]⟩ : ByteArray), .int .i32 0]) ?_ 3 _ rfl; (with_reducible repeat (first | refine blk_drewN ?_ _ | refine blk_drew ?_ | refine blk_alloc ?_ _)); refine blk_put (cs := #[.int .i64 7, .int .i64 0, .string (⟨#[]⟩ : ByteArray), .int .i32 0]) ?_ 2 _ rfl; (with_reducible repeat (first | refine blk_drewN ?_ _ | refine blk_drew ?_ | refine blk_alloc ?_ _)); refine blk_put (cs := #[.int .i64 7, .int .i64 0, .string (⟨#[]⟩ : ByteArray), .int .i32 0]) ?_ 1 _ rfl; (with_reducible repeat (first | refine blk_drewN ?_ _ | refine blk_drew ?_ | refine blk_alloc ?_ _)); refine blk_put (cs := #[.int .i64 0, .int .i64 0, .string (⟨#[]⟩ : ByteArray), .int .i32 0]) ?_ 0 _ rfl; (with_reducible repeat (first | refine blk_drewN ?_ _ | refine blk_drew ?_ | refine blk_alloc ?_ _)); exact BK114.out) Tryz.underlying77 rfl (by kernel_rfl)) rfl ?_
   exact ⟨by first | rfl | (simp [errW_none, errW_some] <;> rfl) | (simp [*, errW_none, errW_some] <;> rfl), by repeat (first | (with_reducible first | exact HB.out | apply below_alloc | apply pw_below_drewN | apply below_drew1 | refine below_set ?_ GE114.out) | exact HB.out)⟩
  ·rw [if_neg c4] at H
   have c4b0 : ((bt a0 0) == 10) = false := beq_eq_false_iff_ne.mpr c4
   have c4b1 : ((bt a0 0) != 10) = true := bne_iff_ne.mpr c4
   by_cases c7 : (bt a0 0) = 36
   ·rw [if_pos c7] at H
    have c7b0 : ((bt a0 0) == 36) = true := beq_iff_eq.mpr c7
    have c7b1 : ((bt a0 0) != 36) = false := bne_eq_false_iff_eq.mpr c7
    clear c7
    replace H := Option.bind_eq_some_iff.mp H
    obtain ⟨⟨t115, t116, t117, t118, t119⟩, A80, H⟩ := H
    replace H : (some (t115, t116, t117, t118, t119)) = some (r1, r2, r3, r4, r5) := H
    have A8 := Aside0.mk A80
    clear A80
    simp only [Option.some.injEq, Prod.mk.injEq] at H
    obtain ⟨rfl, rfl, rfl, rfl, rfl⟩ := H
    go_enter Tryz.func87, Tryz.ntmps87
    go_wp2_with (first | ((with_reducible refine gate_dst (N := 2) rfl ?_); refine box_event ?hg (N := 2) ?hd (cs := #[.int .i64 0, .int .i64 0, .string (⟨#[]⟩ : ByteArray), .int .i32 0]) (t := 77) ?hr ?_; (case hd => rfl); (case hg => rfl); (case hr => first | (go_simp; done) | (go_simp; rfl)); intro gb114 hg w9 hbox hb; have n0_ := Aside0.mk (below_step (by repeat (first | (with_reducible first | exact HB.out | apply below_alloc | apply pw_below_drewN | apply below_drew1) | exact HB.out)) hb); have n1_ := Aside0.mk (hbox); have n2_ := Aside0.mk ((by rw [hg]; exact (below_size (by repeat (first | (with_reducible first | exact HB.out | apply below_alloc | apply pw_below_drewN | apply below_drew1) | exact HB.out))) : w.heap.size ≤ gb114)); have n3_ := Aside0.mk ((by rw [hg]; exact (below_size (by repeat (first | (with_reducible first | exact HB.out | apply below_alloc | apply pw_below_drewN | apply below_drew1) | exact HB.out))) : w.heap.size ≤ gb114)); clear HB; have HB := n0_; have BK114 := n1_; have GW114 := n2_; have GE114 := n3_; clear n0_ n1_ n2_ n3_; clear hb hbox hg; have p3 : 0 ≤ (0 : Int) := (by omega); have q3 : 0 < a0.size := (by have : (0 : Int) < (a0.size : Int) := of_decide_eq_true (by first | (with_reducible assumption) | assumption); omega); have hx3 : ∀ h : 0 < a0.size, ((a0[0]'h).toNat : Int) = bt a0 0 := bt_at a0 0; clear p3; have qi3 : (0 < (a0.size : Int)) = True := eq_true (of_decide_eq_true (by first | (with_reducible assumption) | assumption)); replace q3 := eq_true q3) | ((with_reducible refine gate_callee (f := 114) rfl ?_); refine goesL_ (some 15) rfl rfl Tryz.func114 (by kernel_rfl) rfl #[.string a0] rfl (by (try simp only [List.map_toArray, List.map_cons, List.map_nil]); first | done | rfl | (simp only [List.length_drop, List.length_take]; rfl)) ?_; (with_reducible refine (lex_name.calls a0 t115 t116 t117 t118 t119 _ A8.out).mono ?_); rintro e w10 ⟨rfl, hb⟩; refine ⟨_, rfl, ?_⟩; have n0_ := Aside0.mk (blk_below (g := gb114) (o := .cells #[.int .i64 0, .int .i64 0, .string (⟨#[]⟩ : ByteArray), .int .i32 0] 77 (0, 0)) (by (with_reducible repeat (first | refine blk_drewN ?_ _ | refine blk_drew ?_ | refine blk_alloc ?_ _)); exact BK114.out) hb); have n1_ := Aside0.mk (below_step (by repeat (first | (with_reducible first | exact HB.out | apply below_alloc | apply pw_below_drewN | apply below_drew1 | refine below_set ?_ GE114.out) | exact HB.out)) hb); clear BK114; clear HB; have BK114 := n0_; have HB := n1_; clear n0_ n1_; (try clear hb); (try clear hb2); (try clear hk); (try clear hi); have hcz11_0 : w10.cell? ⟨gb114, 0, none⟩ = some (.int .i64 0) := (blk_cell BK114.out 0).trans rfl; have hcz11_1 : w10.cell? ⟨gb114, 1, none⟩ = some (.int .i64 0) := (blk_cell BK114.out 1).trans rfl; have hcz11_2 : w10.cell? ⟨gb114, 2, none⟩ = some (.string (⟨#[]⟩ : ByteArray)) := (blk_cell BK114.out 2).trans rfl; have hcz11_3 : w10.cell? ⟨gb114, 3, none⟩ = some (.int .i32 0) := (blk_cell BK114.out 3).trans rfl; have hfz11_0 := blk_frozen BK114.out 0; have hfz11_1 := blk_frozen BK114.out 1; have hfz11_2 := blk_frozen BK114.out 2; have hfz11_3 := blk_frozen BK114.out 3))
    refine bodyPost_ret (results_ct rfl _ _ gb114 77 #[.int .i64 t115, .int .i64 t116, .string t117, .int .i32 t118] (0, 0) _ rfl (by (with_reducible repeat (first | refine blk_drewN ?_ _ | refine blk_drew ?_ | refine blk_alloc ?_ _)); refine blk_put (cs := #[.int .i64 t115, .int .i64 t116, .string t117, .int .i32 0]) ?_ 3 _ rfl; (with_reducible repeat (first | refine blk_drewN ?_ _ | refine blk_drew ?_ | refine blk_alloc ?_ _)); refine blk_put (cs := #[.int .i64 t115, .int .i64 t116, .string (⟨#[]⟩ : ByteArray), .int .i32 0]) ?_ 2 _ rfl; (with_reducible repeat (first | refine blk_drewN ?_ _ | refine blk_drew ?_ | refine blk_alloc ?_ _)); refine blk_put (cs := #[.int .i64 t115, .int .i64 0, .string (⟨#[]⟩ : ByteArray), .int .i32 0]) ?_ 1 _ rfl; (with_reducible repeat (first | refine blk_drewN ?_ _ | refine blk_drew ?_ | refine blk_alloc ?_ _)); refine blk_put (cs := #[.int .i64 0, .int .i64 0, .string (⟨#[]⟩ : ByteArray), .int .i32 0]) ?_ 0 _ rfl; (with_reducible repeat (first | refine blk_drewN ?_ _ | refine blk_drew ?_ | refine blk_alloc ?_ _)); exact BK114.out) Tryz.underlying77 rfl (by kernel_rfl)) rfl ?_
    exact ⟨by first | rfl | (simp [errW_none, errW_some] <;> rfl) | (simp [*, errW_none, errW_some] <;> rfl), by repeat (first | (with_reducible first | exact HB.out | apply below_alloc | apply pw_below_drewN | apply below_drew1 | refine below_set ?_ GE114.out) | exact HB.out)⟩
   ·rw [if_neg c7] at H
    have c7b0 : ((bt a0 0) == 36) = false := beq_eq_false_iff_ne.mpr c7
    have c7b1 : ((bt a0 0) != 36) = true := bne_iff_ne.mpr c7
    replace H := Option.bind_eq_some_iff.mp H
    obtain ⟨t120, A120, H⟩ := H
    replace H : (if t120 = true then ((lex_num.f a0).bind fun bt121 => (some (bt121.1, bt121.2.1, bt121.2.2.1, bt121.2.2.2.1, bt121.2.2.2.2))) else ((lex_letter.f (bt a0 0)).bind fun t126 => (if t126 = true then ((lex_ident.f a0).bind fun bt127 => (some (bt127.1, bt127.2.1, bt127.2.2.1, bt127.2.2.2.1, bt127.2.2.2.2))) else (if (bt a0 0) = 34 then ((lex_word.f a0).bind fun bt132 => (some (bt132.1, bt132.2.1, bt132.2.2.1, bt132.2.2.2.1, bt132.2.2.2.2))) else (if (bt a0 0) = 39 then ((lex_char.f a0).bind fun bt137 => (some (bt137.1, bt137.2.1, bt137.2.2.1, bt137.2.2.2.1, bt137.2.2.2.2))) else (if (bt a0 0) = 123 then ((lex_prop.f a0).bind fun bt142 => (some (bt142.1, bt142.2.1, bt142.2.2.1, bt142.2.2.2.1, bt142.2.2.2.2))) else ((lex_sign.f k a0).bind fun bt147 => (some (bt147.1, bt147.2.1, bt147.2.2.1, bt147.2.2.2.1, bt147.2.2.2.2))))))))) = some (r1, r2, r3, r4, r5) := H
    have A12 := Aside0.mk A120
    clear A120
    by_cases c13 : t120 = true
    ·subst c13
     have H1 : ((lex_num.f a0).bind fun bt121 => (some (bt121.1, bt121.2.1, bt121.2.2.1, bt121.2.2.2.1, bt121.2.2.2.2))) = some (r1, r2, r3, r4, r5) := by rw [if_pos rfl] at H; exact H
     clear H
     have H := H1
     clear H1
     replace H := Option.bind_eq_some_iff.mp H
     obtain ⟨⟨t121, t122, t123, t124, t125⟩, A140, H⟩ := H
     replace H : (some (t121, t122, t123, t124, t125)) = some (r1, r2, r3, r4, r5) := H
     have A14 := Aside0.mk A140
     clear A140
     simp only [Option.some.injEq, Prod.mk.injEq] at H
     obtain ⟨rfl, rfl, rfl, rfl, rfl⟩ := H
     go_enter Tryz.func87, Tryz.ntmps87
     go_wp2_with (first | ((with_reducible refine gate_dst (N := 2) rfl ?_); refine box_event ?hg (N := 2) ?hd (cs := #[.int .i64 0, .int .i64 0, .string (⟨#[]⟩ : ByteArray), .int .i32 0]) (t := 77) ?hr ?_; (case hd => rfl); (case hg => rfl); (case hr => first | (go_simp; done) | (go_simp; rfl)); intro gb114 hg w15 hbox hb; have n0_ := Aside0.mk (below_step (by repeat (first | (with_reducible first | exact HB.out | apply below_alloc | apply pw_below_drewN | apply below_drew1) | exact HB.out)) hb); have n1_ := Aside0.mk (hbox); have n2_ := Aside0.mk ((by rw [hg]; exact (below_size (by repeat (first | (with_reducible first | exact HB.out | apply below_alloc | apply pw_below_drewN | apply below_drew1) | exact HB.out))) : w.heap.size ≤ gb114)); have n3_ := Aside0.mk ((by rw [hg]; exact (below_size (by repeat (first | (with_reducible first | exact HB.out | apply below_alloc | apply pw_below_drewN | apply below_drew1) | exact HB.out))) : w.heap.size ≤ gb114)); clear HB; have HB := n0_; have BK114 := n1_; have GW114 := n2_; have GE114 := n3_; clear n0_ n1_ n2_ n3_; clear hb hbox hg; have p3 : 0 ≤ (0 : Int) := (by omega); have q3 : 0 < a0.size := (by have : (0 : Int) < (a0.size : Int) := of_decide_eq_true (by first | (with_reducible assumption) | assumption); omega); have hx3 : ∀ h : 0 < a0.size, ((a0[0]'h).toNat : Int) = bt a0 0 := bt_at a0 0; clear p3; have qi3 : (0 < (a0.size : Int)) = True := eq_true (of_decide_eq_true (by first | (with_reducible assumption) | assumption)); replace q3 := eq_true q3) | ((with_reducible refine gate_callee (f := 115) rfl ?_); refine goesL_ (some 20) rfl rfl Tryz.func115 (by kernel_rfl) rfl #[.int .u8 (bt a0 0)] rfl (by (try simp only [List.map_toArray, List.map_cons, List.map_nil]); first | done | rfl | (simp only [List.length_drop, List.length_take]; rfl)) ?_; (with_reducible refine (lex_digit.calls (bt a0 0) true _ A12.out).mono ?_); rintro e w' ⟨rfl, ⟨nd, rfl⟩⟩; refine ⟨_, rfl, ?_⟩; (try (rw [drewN_self w15]; generalize hq_ : World.drewN w15 _ = w15; have n0_ : Aside0 (w15.heap[gb114]? = some (.cells #[.int .i64 0, .int .i64 0, .string (⟨#[]⟩ : ByteArray), .int .i32 0] 77 (0, 0))) := ⟨by rw [← hq_]; exact (by (with_reducible repeat (first | refine blk_drewN ?_ _ | refine blk_drew ?_ | refine blk_alloc ?_ _)); exact BK114.out)⟩; have n1_ : Aside0 (Below w.heap.size w w15) := ⟨by rw [← hq_]; exact (by repeat (first | (with_reducible first | exact HB.out | apply below_alloc | apply pw_below_drewN | apply below_drew1 | refine below_set ?_ GE114.out) | exact HB.out))⟩; clear BK114 HB hq_; have BK114 := n0_; have HB := n1_; clear n0_ n1_))) | ((with_reducible refine gate_callee (f := 116) rfl ?_); refine goesL_ (some 22) rfl rfl Tryz.func116 (by kernel_rfl) rfl #[.string a0] rfl (by (try simp only [List.map_toArray, List.map_cons, List.map_nil]); first | done | rfl | (simp only [List.length_drop, List.length_take]; rfl)) ?_; (with_reducible refine (lex_num.calls a0 t121 t122 t123 t124 t125 _ A14.out).mono ?_); rintro e w16 ⟨rfl, hb⟩; refine ⟨_, rfl, ?_⟩; have n0_ := Aside0.mk (blk_below (g := gb114) (o := .cells #[.int .i64 0, .int .i64 0, .string (⟨#[]⟩ : ByteArray), .int .i32 0] 77 (0, 0)) (by (with_reducible repeat (first | refine blk_drewN ?_ _ | refine blk_drew ?_ | refine blk_alloc ?_ _)); exact BK114.out) hb); have n1_ := Aside0.mk (below_step (by repeat (first | (with_reducible first | exact HB.out | apply below_alloc | apply pw_below_drewN | apply below_drew1 | refine below_set ?_ GE114.out) | exact HB.out)) hb); clear BK114; clear HB; have BK114 := n0_; have HB := n1_; clear n0_ n1_; (try clear hb); (try clear hb2); (try clear hk); (try clear hi); have hcz17_0 : w16.cell? ⟨gb114, 0, none⟩ = some (.int .i64 0) := (blk_cell BK114.out 0).trans rfl; have hcz17_1 : w16.cell? ⟨gb114, 1, none⟩ = some (.int .i64 0) := (blk_cell BK114.out 1).trans rfl; have hcz17_2 : w16.cell? ⟨gb114, 2, none⟩ = some (.string (⟨#[]⟩ : ByteArray)) := (blk_cell BK114.out 2).trans rfl; have hcz17_3 : w16.cell? ⟨gb114, 3, none⟩ = some (.int .i32 0) := (blk_cell BK114.out 3).trans rfl; have hfz17_0 := blk_frozen BK114.out 0; have hfz17_1 := blk_frozen BK114.out 1; have hfz17_2 := blk_frozen BK114.out 2; have hfz17_3 := blk_frozen BK114.out 3))
     refine bodyPost_ret (results_ct rfl _ _ gb114 77 #[.int .i64 t121, .int .i64 t122, .string t123, .int .i32 t124] (0, 0) _ rfl (by (with_reducible repeat (first | refine blk_drewN ?_ _ | refine blk_drew ?_ | refine blk_alloc ?_ _)); refine blk_put (cs := #[.int .i64 t121, .int .i64 t122, .string t123, .int .i32 0]) ?_ 3 _ rfl; (with_reducible repeat (first | refine blk_drewN ?_ _ | refine blk_drew ?_ | refine blk_alloc ?_ _)); refine blk_put (cs := #[.int .i64 t121, .int .i64 t122, .string (⟨#[]⟩ : ByteArray), .int .i32 0]) ?_ 2 _ rfl; (with_reducible repeat (first | refine blk_drewN ?_ _ | refine blk_drew ?_ | refine blk_alloc ?_ _)); refine blk_put (cs := #[.int .i64 t121, .int .i64 0, .string (⟨#[]⟩ : ByteArray), .int .i32 0]) ?_ 1 _ rfl; (with_reducible repeat (first | refine blk_drewN ?_ _ | refine blk_drew ?_ | refine blk_alloc ?_ _)); refine blk_put (cs := #[.int .i64 0, .int .i64 0, .string (⟨#[]⟩ : ByteArray), .int .i32 0]) ?_ 0 _ rfl; (with_reducible repeat (first | refine blk_drewN ?_ _ | refine blk_drew ?_ | refine blk_alloc ?_ _)); exact BK114.out) Tryz.underlying77 rfl (by kernel_rfl)) rfl ?_
     exact ⟨by first | rfl | (simp [errW_none, errW_some] <;> rfl) | (simp [*, errW_none, errW_some] <;> rfl), by repeat (first | (with_reducible first | exact HB.out | apply below_alloc | apply pw_below_drewN | apply below_drew1 | refine below_set ?_ GE114.out) | exact HB.out)⟩
    ·replace c13 := Bool.eq_false_iff.mpr c13
     subst c13
     have H1 : ((lex_letter.f (bt a0 0)).bind fun t126 => (if t126 = true then ((lex_ident.f a0).bind fun bt127 => (some (bt127.1, bt127.2.1, bt127.2.2.1, bt127.2.2.2.1, bt127.2.2.2.2))) else (if (bt a0 0) = 34 then ((lex_word.f a0).bind fun bt132 => (some (bt132.1, bt132.2.1, bt132.2.2.1, bt132.2.2.2.1, bt132.2.2.2.2))) else (if (bt a0 0) = 39 then ((lex_char.f a0).bind fun bt137 => (some (bt137.1, bt137.2.1, bt137.2.2.1, bt137.2.2.2.1, bt137.2.2.2.2))) else (if (bt a0 0) = 123 then ((lex_prop.f a0).bind fun bt142 => (some (bt142.1, bt142.2.1, bt142.2.2.1, bt142.2.2.2.1, bt142.2.2.2.2))) else ((lex_sign.f k a0).bind fun bt147 => (some (bt147.1, bt147.2.1, bt147.2.2.1, bt147.2.2.2.1, bt147.2.2.2.2)))))))) = some (r1, r2, r3, r4, r5) := by rw [if_neg (show ¬ (false = true) by decide)] at H; exact H
     clear H
     have H := H1
     clear H1
     replace H := Option.bind_eq_some_iff.mp H
     obtain ⟨t126, A180, H⟩ := H
     replace H : (if t126 = true then ((lex_ident.f a0).bind fun bt127 => (some (bt127.1, bt127.2.1, bt127.2.2.1, bt127.2.2.2.1, bt127.2.2.2.2))) else (if (bt a0 0) = 34 then ((lex_word.f a0).bind fun bt132 => (some (bt132.1, bt132.2.1, bt132.2.2.1, bt132.2.2.2.1, bt132.2.2.2.2))) else (if (bt a0 0) = 39 then ((lex_char.f a0).bind fun bt137 => (some (bt137.1, bt137.2.1, bt137.2.2.1, bt137.2.2.2.1, bt137.2.2.2.2))) else (if (bt a0 0) = 123 then ((lex_prop.f a0).bind fun bt142 => (some (bt142.1, bt142.2.1, bt142.2.2.1, bt142.2.2.2.1, bt142.2.2.2.2))) else ((lex_sign.f k a0).bind fun bt147 => (some (bt147.1, bt147.2.1, bt147.2.2.1, bt147.2.2.2.1, bt147.2.2.2.2))))))) = some (r1, r2, r3, r4, r5) := H
     have A18 := Aside0.mk A180
     clear A180
     by_cases c19 : t126 = true
     ·subst c19
      have H1 : ((lex_ident.f a0).bind fun bt127 => (some (bt127.1, bt127.2.1, bt127.2.2.1, bt127.2.2.2.1, bt127.2.2.2.2))) = some (r1, r2, r3, r4, r5) := by rw [if_pos rfl] at H; exact H
      clear H
      have H := H1
      clear H1
      replace H := Option.bind_eq_some_iff.mp H
      obtain ⟨⟨t127, t128, t129, t130, t131⟩, A200, H⟩ := H
      replace H : (some (t127, t128, t129, t130, t131)) = some (r1, r2, r3, r4, r5) := H
      have A20 := Aside0.mk A200
      clear A200
      simp only [Option.some.injEq, Prod.mk.injEq] at H
      obtain ⟨rfl, rfl, rfl, rfl, rfl⟩ := H
      go_enter Tryz.func87, Tryz.ntmps87
      go_wp2_with (first | ((with_reducible refine gate_dst (N := 2) rfl ?_); refine box_event ?hg (N := 2) ?hd (cs := #[.int .i64 0, .int .i64 0, .string (⟨#[]⟩ : ByteArray), .int .i32 0]) (t := 77) ?hr ?_; (case hd => rfl); (case hg => rfl); (case hr => first | (go_simp; done) | (go_simp; rfl)); intro gb114 hg w21 hbox hb; have n0_ := Aside0.mk (below_step (by repeat (first | (with_reducible first | exact HB.out | apply below_alloc | apply pw_below_drewN | apply below_drew1) | exact HB.out)) hb); have n1_ := Aside0.mk (hbox); have n2_ := Aside0.mk ((by rw [hg]; exact (below_size (by repeat (first | (with_reducible first | exact HB.out | apply below_alloc | apply pw_below_drewN | apply below_drew1) | exact HB.out))) : w.heap.size ≤ gb114)); have n3_ := Aside0.mk ((by rw [hg]; exact (below_size (by repeat (first | (with_reducible first | exact HB.out | apply below_alloc | apply pw_below_drewN | apply below_drew1) | exact HB.out))) : w.heap.size ≤ gb114)); clear HB; have HB := n0_; have BK114 := n1_; have GW114 := n2_; have GE114 := n3_; clear n0_ n1_ n2_ n3_; clear hb hbox hg; have p3 : 0 ≤ (0 : Int) := (by omega); have q3 : 0 < a0.size := (by have : (0 : Int) < (a0.size : Int) := of_decide_eq_true (by first | (with_reducible assumption) | assumption); omega); have hx3 : ∀ h : 0 < a0.size, ((a0[0]'h).toNat : Int) = bt a0 0 := bt_at a0 0; clear p3; have qi3 : (0 < (a0.size : Int)) = True := eq_true (of_decide_eq_true (by first | (with_reducible assumption) | assumption)); replace q3 := eq_true q3) | ((with_reducible refine gate_callee (f := 115) rfl ?_); refine goesL_ (some 20) rfl rfl Tryz.func115 (by kernel_rfl) rfl #[.int .u8 (bt a0 0)] rfl (by (try simp only [List.map_toArray, List.map_cons, List.map_nil]); first | done | rfl | (simp only [List.length_drop, List.length_take]; rfl)) ?_; (with_reducible refine (lex_digit.calls (bt a0 0) false _ A12.out).mono ?_); rintro e w' ⟨rfl, ⟨nd, rfl⟩⟩; refine ⟨_, rfl, ?_⟩; (try (rw [drewN_self w21]; generalize hq_ : World.drewN w21 _ = w21; have n0_ : Aside0 (w21.heap[gb114]? = some (.cells #[.int .i64 0, .int .i64 0, .string (⟨#[]⟩ : ByteArray), .int .i32 0] 77 (0, 0))) := ⟨by rw [← hq_]; exact (by (with_reducible repeat (first | refine blk_drewN ?_ _ | refine blk_drew ?_ | refine blk_alloc ?_ _)); exact BK114.out)⟩; have n1_ : Aside0 (Below w.heap.size w w21) := ⟨by rw [← hq_]; exact (by repeat (first | (with_reducible first | exact HB.out | apply below_alloc | apply pw_below_drewN | apply below_drew1 | refine below_set ?_ GE114.out) | exact HB.out))⟩; clear BK114 HB hq_; have BK114 := n0_; have HB := n1_; clear n0_ n1_))) | ((with_reducible refine gate_callee (f := 117) rfl ?_); refine goesL_ (some 27) rfl rfl Tryz.func117 (by kernel_rfl) rfl #[.int .u8 (bt a0 0)] rfl (by (try simp only [List.map_toArray, List.map_cons, List.map_nil]); first | done | rfl | (simp only [List.length_drop, List.length_take]; rfl)) ?_; (with_reducible refine (lex_letter.calls (bt a0 0) true _ A18.out).mono ?_); rintro e w' ⟨rfl, ⟨nd, rfl⟩⟩; refine ⟨_, rfl, ?_⟩; (try (rw [drewN_self w21]; generalize hq_ : World.drewN w21 _ = w21; have n0_ : Aside0 (w21.heap[gb114]? = some (.cells #[.int .i64 0, .int .i64 0, .string (⟨#[]⟩ : ByteArray), .int .i32 0] 77 (0, 0))) := ⟨by rw [← hq_]; exact (by (with_reducible repeat (first | refine blk_drewN ?_ _ | refine blk_drew ?_ | refine blk_alloc ?_ _)); exact BK114.out)⟩; have n1_ : Aside0 (Below w.heap.size w w21) := ⟨by rw [← hq_]; exact (by repeat (first | (with_reducible first | exact HB.out | apply below_alloc | apply pw_below_drewN | apply below_drew1 | refine below_set ?_ GE114.out) | exact HB.out))⟩; clear BK114 HB hq_; have BK114 := n0_; have HB := n1_; clear n0_ n1_))) | ((with_reducible refine gate_callee (f := 118) rfl ?_); refine goesL_ (some 29) rfl rfl Tryz.func118 (by kernel_rfl) rfl #[.string a0] rfl (by (try simp only [List.map_toArray, List.map_cons, List.map_nil]); first | done | rfl | (simp only [List.length_drop, List.length_take]; rfl)) ?_; (with_reducible refine (lex_ident.calls a0 t127 t128 t129 t130 t131 _ A20.out).mono ?_); rintro e w22 ⟨rfl, hb⟩; refine ⟨_, rfl, ?_⟩; have n0_ := Aside0.mk (blk_below (g := gb114) (o := .cells #[.int .i64 0, .int .i64 0, .string (⟨#[]⟩ : ByteArray), .int .i32 0] 77 (0, 0)) (by (with_reducible repeat (first | refine blk_drewN ?_ _ | refine blk_drew ?_ | refine blk_alloc ?_ _)); exact BK114.out) hb); have n1_ := Aside0.mk (below_step (by repeat (first | (with_reducible first | exact HB.out | apply below_alloc | apply pw_below_drewN | apply below_drew1 | refine below_set ?_ GE114.out) | exact HB.out)) hb); clear BK114; clear HB; have BK114 := n0_; have HB := n1_; clear n0_ n1_; (try clear hb); (try clear hb2); (try clear hk); (try clear hi); have hcz23_0 : w22.cell? ⟨gb114, 0, none⟩ = some (.int .i64 0) := (blk_cell BK114.out 0).trans rfl; have hcz23_1 : w22.cell? ⟨gb114, 1, none⟩ = some (.int .i64 0) := (blk_cell BK114.out 1).trans rfl; have hcz23_2 : w22.cell? ⟨gb114, 2, none⟩ = some (.string (⟨#[]⟩ : ByteArray)) := (blk_cell BK114.out 2).trans rfl; have hcz23_3 : w22.cell? ⟨gb114, 3, none⟩ = some (.int .i32 0) := (blk_cell BK114.out 3).trans rfl; have hfz23_0 := blk_frozen BK114.out 0; have hfz23_1 := blk_frozen BK114.out 1; have hfz23_2 := blk_frozen BK114.out 2; have hfz23_3 := blk_frozen BK114.out 3))
      refine bodyPost_ret (results_ct rfl _ _ gb114 77 #[.int .i64 t127, .int .i64 t128, .string t129, .int .i32 t130] (0, 0) _ rfl (by (with_reducible repeat (first | refine blk_drewN ?_ _ | refine blk_drew ?_ | refine blk_alloc ?_ _)); refine blk_put (cs := #[.int .i64 t127, .int .i64 t128, .string t129, .int .i32 0]) ?_ 3 _ rfl; (with_reducible repeat (first | refine blk_drewN ?_ _ | refine blk_drew ?_ | refine blk_alloc ?_ _)); refine blk_put (cs := #[.int .i64 t127, .int .i64 t128, .string (⟨#[]⟩ : ByteArray), .int .i32 0]) ?_ 2 _ rfl; (with_reducible repeat (first | refine blk_drewN ?_ _ | refine blk_drew ?_ | refine blk_alloc ?_ _)); refine blk_put (cs := #[.int .i64 t127, .int .i64 0, .string (⟨#[]⟩ : ByteArray), .int .i32 0]) ?_ 1 _ rfl; (with_reducible repeat (first | refine blk_drewN ?_ _ | refine blk_drew ?_ | refine blk_alloc ?_ _)); refine blk_put (cs := #[.int .i64 0, .int .i64 0, .string (⟨#[]⟩ : ByteArray), .int .i32 0]) ?_ 0 _ rfl; (with_reducible repeat (first | refine blk_drewN ?_ _ | refine blk_drew ?_ | refine blk_alloc ?_ _)); exact BK114.out) Tryz.underlying77 rfl (by kernel_rfl)) rfl ?_
      exact ⟨by first | rfl | (simp [errW_none, errW_some] <;> rfl) | (simp [*, errW_none, errW_some] <;> rfl), by repeat (first | (with_reducible first | exact HB.out | apply below_alloc | apply pw_below_drewN | apply below_drew1 | refine below_set ?_ GE114.out) | exact HB.out)⟩
     ·replace c19 := Bool.eq_false_iff.mpr c19
      subst c19
      have H1 : (if (bt a0 0) = 34 then ((lex_word.f a0).bind fun bt132 => (some (bt132.1, bt132.2.1, bt132.2.2.1, bt132.2.2.2.1, bt132.2.2.2.2))) else (if (bt a0 0) = 39 then ((lex_char.f a0).bind fun bt137 => (some (bt137.1, bt137.2.1, bt137.2.2.1, bt137.2.2.2.1, bt137.2.2.2.2))) else (if (bt a0 0) = 123 then ((lex_prop.f a0).bind fun bt142 => (some (bt142.1, bt142.2.1, bt142.2.2.1, bt142.2.2.2.1, bt142.2.2.2.2))) else ((lex_sign.f k a0).bind fun bt147 => (some (bt147.1, bt147.2.1, bt147.2.2.1, bt147.2.2.2.1, bt147.2.2.2.2)))))) = some (r1, r2, r3, r4, r5) := by rw [if_neg (show ¬ (false = true) by decide)] at H; exact H
      clear H
      have H := H1
      clear H1
      by_cases c24 : (bt a0 0) = 34
      ·rw [if_pos c24] at H
       have c24b0 : ((bt a0 0) == 34) = true := beq_iff_eq.mpr c24
       have c24b1 : ((bt a0 0) != 34) = false := bne_eq_false_iff_eq.mpr c24
       clear c24
       replace H := Option.bind_eq_some_iff.mp H
       obtain ⟨⟨t132, t133, t134, t135, t136⟩, A250, H⟩ := H
       replace H : (some (t132, t133, t134, t135, t136)) = some (r1, r2, r3, r4, r5) := H
       have A25 := Aside0.mk A250
       clear A250
       simp only [Option.some.injEq, Prod.mk.injEq] at H
       obtain ⟨rfl, rfl, rfl, rfl, rfl⟩ := H
       go_enter Tryz.func87, Tryz.ntmps87
       go_wp2_with (first | ((with_reducible refine gate_dst (N := 2) rfl ?_); refine box_event ?hg (N := 2) ?hd (cs := #[.int .i64 0, .int .i64 0, .string (⟨#[]⟩ : ByteArray), .int .i32 0]) (t := 77) ?hr ?_; (case hd => rfl); (case hg => rfl); (case hr => first | (go_simp; done) | (go_simp; rfl)); intro gb114 hg w26 hbox hb; have n0_ := Aside0.mk (below_step (by repeat (first | (with_reducible first | exact HB.out | apply below_alloc | apply pw_below_drewN | apply below_drew1) | exact HB.out)) hb); have n1_ := Aside0.mk (hbox); have n2_ := Aside0.mk ((by rw [hg]; exact (below_size (by repeat (first | (with_reducible first | exact HB.out | apply below_alloc | apply pw_below_drewN | apply below_drew1) | exact HB.out))) : w.heap.size ≤ gb114)); have n3_ := Aside0.mk ((by rw [hg]; exact (below_size (by repeat (first | (with_reducible first | exact HB.out | apply below_alloc | apply pw_below_drewN | apply below_drew1) | exact HB.out))) : w.heap.size ≤ gb114)); clear HB; have HB := n0_; have BK114 := n1_; have GW114 := n2_; have GE114 := n3_; clear n0_ n1_ n2_ n3_; clear hb hbox hg; have p3 : 0 ≤ (0 : Int) := (by omega); have q3 : 0 < a0.size := (by have : (0 : Int) < (a0.size : Int) := of_decide_eq_true (by first | (with_reducible assumption) | assumption); omega); have hx3 : ∀ h : 0 < a0.size, ((a0[0]'h).toNat : Int) = bt a0 0 := bt_at a0 0; clear p3; have qi3 : (0 < (a0.size : Int)) = True := eq_true (of_decide_eq_true (by first | (with_reducible assumption) | assumption)); replace q3 := eq_true q3) | ((with_reducible refine gate_callee (f := 115) rfl ?_); refine goesL_ (some 20) rfl rfl Tryz.func115 (by kernel_rfl) rfl #[.int .u8 (bt a0 0)] rfl (by (try simp only [List.map_toArray, List.map_cons, List.map_nil]); first | done | rfl | (simp only [List.length_drop, List.length_take]; rfl)) ?_; (with_reducible refine (lex_digit.calls (bt a0 0) false _ A12.out).mono ?_); rintro e w' ⟨rfl, ⟨nd, rfl⟩⟩; refine ⟨_, rfl, ?_⟩; (try (rw [drewN_self w26]; generalize hq_ : World.drewN w26 _ = w26; have n0_ : Aside0 (w26.heap[gb114]? = some (.cells #[.int .i64 0, .int .i64 0, .string (⟨#[]⟩ : ByteArray), .int .i32 0] 77 (0, 0))) := ⟨by rw [← hq_]; exact (by (with_reducible repeat (first | refine blk_drewN ?_ _ | refine blk_drew ?_ | refine blk_alloc ?_ _)); exact BK114.out)⟩; have n1_ : Aside0 (Below w.heap.size w w26) := ⟨by rw [← hq_]; exact (by repeat (first | (with_reducible first | exact HB.out | apply below_alloc | apply pw_below_drewN | apply below_drew1 | refine below_set ?_ GE114.out) | exact HB.out))⟩; clear BK114 HB hq_; have BK114 := n0_; have HB := n1_; clear n0_ n1_))) | ((with_reducible refine gate_callee (f := 117) rfl ?_); refine goesL_ (some 27) rfl rfl Tryz.func117 (by kernel_rfl) rfl #[.int .u8 (bt a0 0)] rfl (by (try simp only [List.map_toArray, List.map_cons, List.map_nil]); first | done | rfl | (simp only [List.length_drop, List.length_take]; rfl)) ?_; (with_reducible refine (lex_letter.calls (bt a0 0) false _ A18.out).mono ?_); rintro e w' ⟨rfl, ⟨nd, rfl⟩⟩; refine ⟨_, rfl, ?_⟩; (try (rw [drewN_self w26]; generalize hq_ : World.drewN w26 _ = w26; have n0_ : Aside0 (w26.heap[gb114]? = some (.cells #[.int .i64 0, .int .i64 0, .string (⟨#[]⟩ : ByteArray), .int .i32 0] 77 (0, 0))) := ⟨by rw [← hq_]; exact (by (with_reducible repeat (first | refine blk_drewN ?_ _ | refine blk_drew ?_ | refine blk_alloc ?_ _)); exact BK114.out)⟩; have n1_ : Aside0 (Below w.heap.size w w26) := ⟨by rw [← hq_]; exact (by repeat (first | (with_reducible first | exact HB.out | apply below_alloc | apply pw_below_drewN | apply below_drew1 | refine below_set ?_ GE114.out) | exact HB.out))⟩; clear BK114 HB hq_; have BK114 := n0_; have HB := n1_; clear n0_ n1_))) | ((with_reducible refine gate_callee (f := 119) rfl ?_); refine goesL_ (some 36) rfl rfl Tryz.func119 (by kernel_rfl) rfl #[.string a0] rfl (by (try simp only [List.map_toArray, List.map_cons, List.map_nil]); first | done | rfl | (simp only [List.length_drop, List.length_take]; rfl)) ?_; (with_reducible refine (lex_word.calls a0 t132 t133 t134 t135 t136 _ A25.out).mono ?_); rintro e w27 ⟨rfl, hb⟩; refine ⟨_, rfl, ?_⟩; have n0_ := Aside0.mk (blk_below (g := gb114) (o := .cells #[.int .i64 0, .int .i64 0, .string (⟨#[]⟩ : ByteArray), .int .i32 0] 77 (0, 0)) (by (with_reducible repeat (first | refine blk_drewN ?_ _ | refine blk_drew ?_ | refine blk_alloc ?_ _)); exact BK114.out) hb); have n1_ := Aside0.mk (below_step (by repeat (first | (with_reducible first | exact HB.out | apply below_alloc | apply pw_below_drewN | apply below_drew1 | refine below_set ?_ GE114.out) | exact HB.out)) hb); clear BK114; clear HB; have BK114 := n0_; have HB := n1_; clear n0_ n1_; (try clear hb); (try clear hb2); (try clear hk); (try clear hi); have hcz28_0 : w27.cell? ⟨gb114, 0, none⟩ = some (.int .i64 0) := (blk_cell BK114.out 0).trans rfl; have hcz28_1 : w27.cell? ⟨gb114, 1, none⟩ = some (.int .i64 0) := (blk_cell BK114.out 1).trans rfl; have hcz28_2 : w27.cell? ⟨gb114, 2, none⟩ = some (.string (⟨#[]⟩ : ByteArray)) := (blk_cell BK114.out 2).trans rfl; have hcz28_3 : w27.cell? ⟨gb114, 3, none⟩ = some (.int .i32 0) := (blk_cell BK114.out 3).trans rfl; have hfz28_0 := blk_frozen BK114.out 0; have hfz28_1 := blk_frozen BK114.out 1; have hfz28_2 := blk_frozen BK114.out 2; have hfz28_3 := blk_frozen BK114.out 3))
       refine bodyPost_ret (results_ct rfl _ _ gb114 77 #[.int .i64 t132, .int .i64 t133, .string t134, .int .i32 t135] (0, 0) _ rfl (by (with_reducible repeat (first | refine blk_drewN ?_ _ | refine blk_drew ?_ | refine blk_alloc ?_ _)); refine blk_put (cs := #[.int .i64 t132, .int .i64 t133, .string t134, .int .i32 0]) ?_ 3 _ rfl; (with_reducible repeat (first | refine blk_drewN ?_ _ | refine blk_drew ?_ | refine blk_alloc ?_ _)); refine blk_put (cs := #[.int .i64 t132, .int .i64 t133, .string (⟨#[]⟩ : ByteArray), .int .i32 0]) ?_ 2 _ rfl; (with_reducible repeat (first | refine blk_drewN ?_ _ | refine blk_drew ?_ | refine blk_alloc ?_ _)); refine blk_put (cs := #[.int .i64 t132, .int .i64 0, .string (⟨#[]⟩ : ByteArray), .int .i32 0]) ?_ 1 _ rfl; (with_reducible repeat (first | refine blk_drewN ?_ _ | refine blk_drew ?_ | refine blk_alloc ?_ _)); refine blk_put (cs := #[.int .i64 0, .int .i64 0, .string (⟨#[]⟩ : ByteArray), .int .i32 0]) ?_ 0 _ rfl; (with_reducible repeat (first | refine blk_drewN ?_ _ | refine blk_drew ?_ | refine blk_alloc ?_ _)); exact BK114.out) Tryz.underlying77 rfl (by kernel_rfl)) rfl ?_
       exact ⟨by first | rfl | (simp [errW_none, errW_some] <;> rfl) | (simp [*, errW_none, errW_some] <;> rfl), by repeat (first | (with_reducible first | exact HB.out | apply below_alloc | apply pw_below_drewN | apply below_drew1 | refine below_set ?_ GE114.out) | exact HB.out)⟩
      ·rw [if_neg c24] at H
       have c24b0 : ((bt a0 0) == 34) = false := beq_eq_false_iff_ne.mpr c24
       have c24b1 : ((bt a0 0) != 34) = true := bne_iff_ne.mpr c24
       by_cases c29 : (bt a0 0) = 39
       ·rw [if_pos c29] at H
        have c29b0 : ((bt a0 0) == 39) = true := beq_iff_eq.mpr c29
        have c29b1 : ((bt a0 0) != 39) = false := bne_eq_false_iff_eq.mpr c29
        clear c29
        replace H := Option.bind_eq_some_iff.mp H
        obtain ⟨⟨t137, t138, t139, t140, t141⟩, A300, H⟩ := H
        replace H : (some (t137, t138, t139, t140, t141)) = some (r1, r2, r3, r4, r5) := H
        have A30 := Aside0.mk A300
        clear A300
        simp only [Option.some.injEq, Prod.mk.injEq] at H
        obtain ⟨rfl, rfl, rfl, rfl, rfl⟩ := H
        go_enter Tryz.func87, Tryz.ntmps87
        go_wp2_with (first | ((with_reducible refine gate_dst (N := 2) rfl ?_); refine box_event ?hg (N := 2) ?hd (cs := #[.int .i64 0, .int .i64 0, .string (⟨#[]⟩ : ByteArray), .int .i32 0]) (t := 77) ?hr ?_; (case hd => rfl); (case hg => rfl); (case hr => first | (go_simp; done) | (go_simp; rfl)); intro gb114 hg w31 hbox hb; have n0_ := Aside0.mk (below_step (by repeat (first | (with_reducible first | exact HB.out | apply below_alloc | apply pw_below_drewN | apply below_drew1) | exact HB.out)) hb); have n1_ := Aside0.mk (hbox); have n2_ := Aside0.mk ((by rw [hg]; exact (below_size (by repeat (first | (with_reducible first | exact HB.out | apply below_alloc | apply pw_below_drewN | apply below_drew1) | exact HB.out))) : w.heap.size ≤ gb114)); have n3_ := Aside0.mk ((by rw [hg]; exact (below_size (by repeat (first | (with_reducible first | exact HB.out | apply below_alloc | apply pw_below_drewN | apply below_drew1) | exact HB.out))) : w.heap.size ≤ gb114)); clear HB; have HB := n0_; have BK114 := n1_; have GW114 := n2_; have GE114 := n3_; clear n0_ n1_ n2_ n3_; clear hb hbox hg; have p3 : 0 ≤ (0 : Int) := (by omega); have q3 : 0 < a0.size := (by have : (0 : Int) < (a0.size : Int) := of_decide_eq_true (by first | (with_reducible assumption) | assumption); omega); have hx3 : ∀ h : 0 < a0.size, ((a0[0]'h).toNat : Int) = bt a0 0 := bt_at a0 0; clear p3; have qi3 : (0 < (a0.size : Int)) = True := eq_true (of_decide_eq_true (by first | (with_reducible assumption) | assumption)); replace q3 := eq_true q3) | ((with_reducible refine gate_callee (f := 115) rfl ?_); refine goesL_ (some 20) rfl rfl Tryz.func115 (by kernel_rfl) rfl #[.int .u8 (bt a0 0)] rfl (by (try simp only [List.map_toArray, List.map_cons, List.map_nil]); first | done | rfl | (simp only [List.length_drop, List.length_take]; rfl)) ?_; (with_reducible refine (lex_digit.calls (bt a0 0) false _ A12.out).mono ?_); rintro e w' ⟨rfl, ⟨nd, rfl⟩⟩; refine ⟨_, rfl, ?_⟩; (try (rw [drewN_self w31]; generalize hq_ : World.drewN w31 _ = w31; have n0_ : Aside0 (w31.heap[gb114]? = some (.cells #[.int .i64 0, .int .i64 0, .string (⟨#[]⟩ : ByteArray), .int .i32 0] 77 (0, 0))) := ⟨by rw [← hq_]; exact (by (with_reducible repeat (first | refine blk_drewN ?_ _ | refine blk_drew ?_ | refine blk_alloc ?_ _)); exact BK114.out)⟩; have n1_ : Aside0 (Below w.heap.size w w31) := ⟨by rw [← hq_]; exact (by repeat (first | (with_reducible first | exact HB.out | apply below_alloc | apply pw_below_drewN | apply below_drew1 | refine below_set ?_ GE114.out) | exact HB.out))⟩; clear BK114 HB hq_; have BK114 := n0_; have HB := n1_; clear n0_ n1_))) | ((with_reducible refine gate_callee (f := 117) rfl ?_); refine goesL_ (some 27) rfl rfl Tryz.func117 (by kernel_rfl) rfl #[.int .u8 (bt a0 0)] rfl (by (try simp only [List.map_toArray, List.map_cons, List.map_nil]); first | done | rfl | (simp only [List.length_drop, List.length_take]; rfl)) ?_; (with_reducible refine (lex_letter.calls (bt a0 0) false _ A18.out).mono ?_); rintro e w' ⟨rfl, ⟨nd, rfl⟩⟩; refine ⟨_, rfl, ?_⟩; (try (rw [drewN_self w31]; generalize hq_ : World.drewN w31 _ = w31; have n0_ : Aside0 (w31.heap[gb114]? = some (.cells #[.int .i64 0, .int .i64 0, .string (⟨#[]⟩ : ByteArray), .int .i32 0] 77 (0, 0))) := ⟨by rw [← hq_]; exact (by (with_reducible repeat (first | refine blk_drewN ?_ _ | refine blk_drew ?_ | refine blk_alloc ?_ _)); exact BK114.out)⟩; have n1_ : Aside0 (Below w.heap.size w w31) := ⟨by rw [← hq_]; exact (by repeat (first | (with_reducible first | exact HB.out | apply below_alloc | apply pw_below_drewN | apply below_drew1 | refine below_set ?_ GE114.out) | exact HB.out))⟩; clear BK114 HB hq_; have BK114 := n0_; have HB := n1_; clear n0_ n1_))) | ((with_reducible refine gate_callee (f := 120) rfl ?_); refine goesL_ (some 43) rfl rfl Tryz.func120 (by kernel_rfl) rfl #[.string a0] rfl (by (try simp only [List.map_toArray, List.map_cons, List.map_nil]); first | done | rfl | (simp only [List.length_drop, List.length_take]; rfl)) ?_; (with_reducible refine (lex_char.calls a0 t137 t138 t139 t140 t141 _ A30.out).mono ?_); rintro e w32 ⟨rfl, hb⟩; refine ⟨_, rfl, ?_⟩; have n0_ := Aside0.mk (blk_below (g := gb114) (o := .cells #[.int .i64 0, .int .i64 0, .string (⟨#[]⟩ : ByteArray), .int .i32 0] 77 (0, 0)) (by (with_reducible repeat (first | refine blk_drewN ?_ _ | refine blk_drew ?_ | refine blk_alloc ?_ _)); exact BK114.out) hb); have n1_ := Aside0.mk (below_step (by repeat (first | (with_reducible first | exact HB.out | apply below_alloc | apply pw_below_drewN | apply below_drew1 | refine below_set ?_ GE114.out) | exact HB.out)) hb); clear BK114; clear HB; have BK114 := n0_; have HB := n1_; clear n0_ n1_; (try clear hb); (try clear hb2); (try clear hk); (try clear hi); have hcz33_0 : w32.cell? ⟨gb114, 0, none⟩ = some (.int .i64 0) := (blk_cell BK114.out 0).trans rfl; have hcz33_1 : w32.cell? ⟨gb114, 1, none⟩ = some (.int .i64 0) := (blk_cell BK114.out 1).trans rfl; have hcz33_2 : w32.cell? ⟨gb114, 2, none⟩ = some (.string (⟨#[]⟩ : ByteArray)) := (blk_cell BK114.out 2).trans rfl; have hcz33_3 : w32.cell? ⟨gb114, 3, none⟩ = some (.int .i32 0) := (blk_cell BK114.out 3).trans rfl; have hfz33_0 := blk_frozen BK114.out 0; have hfz33_1 := blk_frozen BK114.out 1; have hfz33_2 := blk_frozen BK114.out 2; have hfz33_3 := blk_frozen BK114.out 3))
        refine bodyPost_ret (results_ct rfl _ _ gb114 77 #[.int .i64 t137, .int .i64 t138, .string t139, .int .i32 t140] (0, 0) _ rfl (by (with_reducible repeat (first | refine blk_drewN ?_ _ | refine blk_drew ?_ | refine blk_alloc ?_ _)); refine blk_put (cs := #[.int .i64 t137, .int .i64 t138, .string t139, .int .i32 0]) ?_ 3 _ rfl; (with_reducible repeat (first | refine blk_drewN ?_ _ | refine blk_drew ?_ | refine blk_alloc ?_ _)); refine blk_put (cs := #[.int .i64 t137, .int .i64 t138, .string (⟨#[]⟩ : ByteArray), .int .i32 0]) ?_ 2 _ rfl; (with_reducible repeat (first | refine blk_drewN ?_ _ | refine blk_drew ?_ | refine blk_alloc ?_ _)); refine blk_put (cs := #[.int .i64 t137, .int .i64 0, .string (⟨#[]⟩ : ByteArray), .int .i32 0]) ?_ 1 _ rfl; (with_reducible repeat (first | refine blk_drewN ?_ _ | refine blk_drew ?_ | refine blk_alloc ?_ _)); refine blk_put (cs := #[.int .i64 0, .int .i64 0, .string (⟨#[]⟩ : ByteArray), .int .i32 0]) ?_ 0 _ rfl; (with_reducible repeat (first | refine blk_drewN ?_ _ | refine blk_drew ?_ | refine blk_alloc ?_ _)); exact BK114.out) Tryz.underlying77 rfl (by kernel_rfl)) rfl ?_
        exact ⟨by first | rfl | (simp [errW_none, errW_some] <;> rfl) | (simp [*, errW_none, errW_some] <;> rfl), by repeat (first | (with_reducible first | exact HB.out | apply below_alloc | apply pw_below_drewN | apply below_drew1 | refine below_set ?_ GE114.out) | exact HB.out)⟩
       ·rw [if_neg c29] at H
        have c29b0 : ((bt a0 0) == 39) = false := beq_eq_false_iff_ne.mpr c29
        have c29b1 : ((bt a0 0) != 39) = true := bne_iff_ne.mpr c29
        by_cases c34 : (bt a0 0) = 123
        ·rw [if_pos c34] at H
         have c34b0 : ((bt a0 0) == 123) = true := beq_iff_eq.mpr c34
         have c34b1 : ((bt a0 0) != 123) = false := bne_eq_false_iff_eq.mpr c34
         clear c34
         replace H := Option.bind_eq_some_iff.mp H
         obtain ⟨⟨t142, t143, t144, t145, t146⟩, A350, H⟩ := H
         replace H : (some (t142, t143, t144, t145, t146)) = some (r1, r2, r3, r4, r5) := H
         have A35 := Aside0.mk A350
         clear A350
         simp only [Option.some.injEq, Prod.mk.injEq] at H
         obtain ⟨rfl, rfl, rfl, rfl, rfl⟩ := H
         go_enter Tryz.func87, Tryz.ntmps87
         go_wp2_with (first | ((with_reducible refine gate_dst (N := 2) rfl ?_); refine box_event ?hg (N := 2) ?hd (cs := #[.int .i64 0, .int .i64 0, .string (⟨#[]⟩ : ByteArray), .int .i32 0]) (t := 77) ?hr ?_; (case hd => rfl); (case hg => rfl); (case hr => first | (go_simp; done) | (go_simp; rfl)); intro gb114 hg w36 hbox hb; have n0_ := Aside0.mk (below_step (by repeat (first | (with_reducible first | exact HB.out | apply below_alloc | apply pw_below_drewN | apply below_drew1) | exact HB.out)) hb); have n1_ := Aside0.mk (hbox); have n2_ := Aside0.mk ((by rw [hg]; exact (below_size (by repeat (first | (with_reducible first | exact HB.out | apply below_alloc | apply pw_below_drewN | apply below_drew1) | exact HB.out))) : w.heap.size ≤ gb114)); have n3_ := Aside0.mk ((by rw [hg]; exact (below_size (by repeat (first | (with_reducible first | exact HB.out | apply below_alloc | apply pw_below_drewN | apply below_drew1) | exact HB.out))) : w.heap.size ≤ gb114)); clear HB; have HB := n0_; have BK114 := n1_; have GW114 := n2_; have GE114 := n3_; clear n0_ n1_ n2_ n3_; clear hb hbox hg; have p3 : 0 ≤ (0 : Int) := (by omega); have q3 : 0 < a0.size := (by have : (0 : Int) < (a0.size : Int) := of_decide_eq_true (by first | (with_reducible assumption) | assumption); omega); have hx3 : ∀ h : 0 < a0.size, ((a0[0]'h).toNat : Int) = bt a0 0 := bt_at a0 0; clear p3; have qi3 : (0 < (a0.size : Int)) = True := eq_true (of_decide_eq_true (by first | (with_reducible assumption) | assumption)); replace q3 := eq_true q3) | ((with_reducible refine gate_callee (f := 115) rfl ?_); refine goesL_ (some 20) rfl rfl Tryz.func115 (by kernel_rfl) rfl #[.int .u8 (bt a0 0)] rfl (by (try simp only [List.map_toArray, List.map_cons, List.map_nil]); first | done | rfl | (simp only [List.length_drop, List.length_take]; rfl)) ?_; (with_reducible refine (lex_digit.calls (bt a0 0) false _ A12.out).mono ?_); rintro e w' ⟨rfl, ⟨nd, rfl⟩⟩; refine ⟨_, rfl, ?_⟩; (try (rw [drewN_self w36]; generalize hq_ : World.drewN w36 _ = w36; have n0_ : Aside0 (w36.heap[gb114]? = some (.cells #[.int .i64 0, .int .i64 0, .string (⟨#[]⟩ : ByteArray), .int .i32 0] 77 (0, 0))) := ⟨by rw [← hq_]; exact (by (with_reducible repeat (first | refine blk_drewN ?_ _ | refine blk_drew ?_ | refine blk_alloc ?_ _)); exact BK114.out)⟩; have n1_ : Aside0 (Below w.heap.size w w36) := ⟨by rw [← hq_]; exact (by repeat (first | (with_reducible first | exact HB.out | apply below_alloc | apply pw_below_drewN | apply below_drew1 | refine below_set ?_ GE114.out) | exact HB.out))⟩; clear BK114 HB hq_; have BK114 := n0_; have HB := n1_; clear n0_ n1_))) | ((with_reducible refine gate_callee (f := 117) rfl ?_); refine goesL_ (some 27) rfl rfl Tryz.func117 (by kernel_rfl) rfl #[.int .u8 (bt a0 0)] rfl (by (try simp only [List.map_toArray, List.map_cons, List.map_nil]); first | done | rfl | (simp only [List.length_drop, List.length_take]; rfl)) ?_; (with_reducible refine (lex_letter.calls (bt a0 0) false _ A18.out).mono ?_); rintro e w' ⟨rfl, ⟨nd, rfl⟩⟩; refine ⟨_, rfl, ?_⟩; (try (rw [drewN_self w36]; generalize hq_ : World.drewN w36 _ = w36; have n0_ : Aside0 (w36.heap[gb114]? = some (.cells #[.int .i64 0, .int .i64 0, .string (⟨#[]⟩ : ByteArray), .int .i32 0] 77 (0, 0))) := ⟨by rw [← hq_]; exact (by (with_reducible repeat (first | refine blk_drewN ?_ _ | refine blk_drew ?_ | refine blk_alloc ?_ _)); exact BK114.out)⟩; have n1_ : Aside0 (Below w.heap.size w w36) := ⟨by rw [← hq_]; exact (by repeat (first | (with_reducible first | exact HB.out | apply below_alloc | apply pw_below_drewN | apply below_drew1 | refine below_set ?_ GE114.out) | exact HB.out))⟩; clear BK114 HB hq_; have BK114 := n0_; have HB := n1_; clear n0_ n1_))) | ((with_reducible refine gate_callee (f := 121) rfl ?_); refine goesL_ (some 50) rfl rfl Tryz.func121 (by kernel_rfl) rfl #[.string a0] rfl (by (try simp only [List.map_toArray, List.map_cons, List.map_nil]); first | done | rfl | (simp only [List.length_drop, List.length_take]; rfl)) ?_; (with_reducible refine (lex_prop.calls a0 t142 t143 t144 t145 t146 _ A35.out).mono ?_); rintro e w37 ⟨rfl, hb⟩; refine ⟨_, rfl, ?_⟩; have n0_ := Aside0.mk (blk_below (g := gb114) (o := .cells #[.int .i64 0, .int .i64 0, .string (⟨#[]⟩ : ByteArray), .int .i32 0] 77 (0, 0)) (by (with_reducible repeat (first | refine blk_drewN ?_ _ | refine blk_drew ?_ | refine blk_alloc ?_ _)); exact BK114.out) hb); have n1_ := Aside0.mk (below_step (by repeat (first | (with_reducible first | exact HB.out | apply below_alloc | apply pw_below_drewN | apply below_drew1 | refine below_set ?_ GE114.out) | exact HB.out)) hb); clear BK114; clear HB; have BK114 := n0_; have HB := n1_; clear n0_ n1_; (try clear hb); (try clear hb2); (try clear hk); (try clear hi); have hcz38_0 : w37.cell? ⟨gb114, 0, none⟩ = some (.int .i64 0) := (blk_cell BK114.out 0).trans rfl; have hcz38_1 : w37.cell? ⟨gb114, 1, none⟩ = some (.int .i64 0) := (blk_cell BK114.out 1).trans rfl; have hcz38_2 : w37.cell? ⟨gb114, 2, none⟩ = some (.string (⟨#[]⟩ : ByteArray)) := (blk_cell BK114.out 2).trans rfl; have hcz38_3 : w37.cell? ⟨gb114, 3, none⟩ = some (.int .i32 0) := (blk_cell BK114.out 3).trans rfl; have hfz38_0 := blk_frozen BK114.out 0; have hfz38_1 := blk_frozen BK114.out 1; have hfz38_2 := blk_frozen BK114.out 2; have hfz38_3 := blk_frozen BK114.out 3))
         refine bodyPost_ret (results_ct rfl _ _ gb114 77 #[.int .i64 t142, .int .i64 t143, .string t144, .int .i32 t145] (0, 0) _ rfl (by (with_reducible repeat (first | refine blk_drewN ?_ _ | refine blk_drew ?_ | refine blk_alloc ?_ _)); refine blk_put (cs := #[.int .i64 t142, .int .i64 t143, .string t144, .int .i32 0]) ?_ 3 _ rfl; (with_reducible repeat (first | refine blk_drewN ?_ _ | refine blk_drew ?_ | refine blk_alloc ?_ _)); refine blk_put (cs := #[.int .i64 t142, .int .i64 t143, .string (⟨#[]⟩ : ByteArray), .int .i32 0]) ?_ 2 _ rfl; (with_reducible repeat (first | refine blk_drewN ?_ _ | refine blk_drew ?_ | refine blk_alloc ?_ _)); refine blk_put (cs := #[.int .i64 t142, .int .i64 0, .string (⟨#[]⟩ : ByteArray), .int .i32 0]) ?_ 1 _ rfl; (with_reducible repeat (first | refine blk_drewN ?_ _ | refine blk_drew ?_ | refine blk_alloc ?_ _)); refine blk_put (cs := #[.int .i64 0, .int .i64 0, .string (⟨#[]⟩ : ByteArray), .int .i32 0]) ?_ 0 _ rfl; (with_reducible repeat (first | refine blk_drewN ?_ _ | refine blk_drew ?_ | refine blk_alloc ?_ _)); exact BK114.out) Tryz.underlying77 rfl (by kernel_rfl)) rfl ?_
         exact ⟨by first | rfl | (simp [errW_none, errW_some] <;> rfl) | (simp [*, errW_none, errW_some] <;> rfl), by repeat (first | (with_reducible first | exact HB.out | apply below_alloc | apply pw_below_drewN | apply below_drew1 | refine below_set ?_ GE114.out) | exact HB.out)⟩
        ·rw [if_neg c34] at H
         have c34b0 : ((bt a0 0) == 123) = false := beq_eq_false_iff_ne.mpr c34
         have c34b1 : ((bt a0 0) != 123) = true := bne_iff_ne.mpr c34
         replace H := Option.bind_eq_some_iff.mp H
         obtain ⟨⟨t147, t148, t149, t150, t151⟩, A390, H⟩ := H
         replace H : (some (t147, t148, t149, t150, t151)) = some (r1, r2, r3, r4, r5) := H
         have A39 := Aside0.mk A390
         clear A390
         simp only [Option.some.injEq, Prod.mk.injEq] at H
         obtain ⟨rfl, rfl, rfl, rfl, rfl⟩ := H
         go_enter Tryz.func87, Tryz.ntmps87
         go_wp2_with (first | ((with_reducible refine gate_dst (N := 2) rfl ?_); refine box_event ?hg (N := 2) ?hd (cs := #[.int .i64 0, .int .i64 0, .string (⟨#[]⟩ : ByteArray), .int .i32 0]) (t := 77) ?hr ?_; (case hd => rfl); (case hg => rfl); (case hr => first | (go_simp; done) | (go_simp; rfl)); intro gb114 hg w40 hbox hb; have n0_ := Aside0.mk (below_step (by repeat (first | (with_reducible first | exact HB.out | apply below_alloc | apply pw_below_drewN | apply below_drew1) | exact HB.out)) hb); have n1_ := Aside0.mk (hbox); have n2_ := Aside0.mk ((by rw [hg]; exact (below_size (by repeat (first | (with_reducible first | exact HB.out | apply below_alloc | apply pw_below_drewN | apply below_drew1) | exact HB.out))) : w.heap.size ≤ gb114)); have n3_ := Aside0.mk ((by rw [hg]; exact (below_size (by repeat (first | (with_reducible first | exact HB.out | apply below_alloc | apply pw_below_drewN | apply below_drew1) | exact HB.out))) : w.heap.size ≤ gb114)); clear HB; have HB := n0_; have BK114 := n1_; have GW114 := n2_; have GE114 := n3_; clear n0_ n1_ n2_ n3_; clear hb hbox hg; have p3 : 0 ≤ (0 : Int) := (by omega); have q3 : 0 < a0.size := (by have : (0 : Int) < (a0.size : Int) := of_decide_eq_true (by first | (with_reducible assumption) | assumption); omega); have hx3 : ∀ h : 0 < a0.size, ((a0[0]'h).toNat : Int) = bt a0 0 := bt_at a0 0; clear p3; have qi3 : (0 < (a0.size : Int)) = True := eq_true (of_decide_eq_true (by first | (with_reducible assumption) | assumption)); replace q3 := eq_true q3) | ((with_reducible refine gate_callee (f := 115) rfl ?_); refine goesL_ (some 20) rfl rfl Tryz.func115 (by kernel_rfl) rfl #[.int .u8 (bt a0 0)] rfl (by (try simp only [List.map_toArray, List.map_cons, List.map_nil]); first | done | rfl | (simp only [List.length_drop, List.length_take]; rfl)) ?_; (with_reducible refine (lex_digit.calls (bt a0 0) false _ A12.out).mono ?_); rintro e w' ⟨rfl, ⟨nd, rfl⟩⟩; refine ⟨_, rfl, ?_⟩; (try (rw [drewN_self w40]; generalize hq_ : World.drewN w40 _ = w40; have n0_ : Aside0 (w40.heap[gb114]? = some (.cells #[.int .i64 0, .int .i64 0, .string (⟨#[]⟩ : ByteArray), .int .i32 0] 77 (0, 0))) := ⟨by rw [← hq_]; exact (by (with_reducible repeat (first | refine blk_drewN ?_ _ | refine blk_drew ?_ | refine blk_alloc ?_ _)); exact BK114.out)⟩; have n1_ : Aside0 (Below w.heap.size w w40) := ⟨by rw [← hq_]; exact (by repeat (first | (with_reducible first | exact HB.out | apply below_alloc | apply pw_below_drewN | apply below_drew1 | refine below_set ?_ GE114.out) | exact HB.out))⟩; clear BK114 HB hq_; have BK114 := n0_; have HB := n1_; clear n0_ n1_))) | ((with_reducible refine gate_callee (f := 117) rfl ?_); refine goesL_ (some 27) rfl rfl Tryz.func117 (by kernel_rfl) rfl #[.int .u8 (bt a0 0)] rfl (by (try simp only [List.map_toArray, List.map_cons, List.map_nil]); first | done | rfl | (simp only [List.length_drop, List.length_take]; rfl)) ?_; (with_reducible refine (lex_letter.calls (bt a0 0) false _ A18.out).mono ?_); rintro e w' ⟨rfl, ⟨nd, rfl⟩⟩; refine ⟨_, rfl, ?_⟩; (try (rw [drewN_self w40]; generalize hq_ : World.drewN w40 _ = w40; have n0_ : Aside0 (w40.heap[gb114]? = some (.cells #[.int .i64 0, .int .i64 0, .string (⟨#[]⟩ : ByteArray), .int .i32 0] 77 (0, 0))) := ⟨by rw [← hq_]; exact (by (with_reducible repeat (first | refine blk_drewN ?_ _ | refine blk_drew ?_ | refine blk_alloc ?_ _)); exact BK114.out)⟩; have n1_ : Aside0 (Below w.heap.size w w40) := ⟨by rw [← hq_]; exact (by repeat (first | (with_reducible first | exact HB.out | apply below_alloc | apply pw_below_drewN | apply below_drew1 | refine below_set ?_ GE114.out) | exact HB.out))⟩; clear BK114 HB hq_; have BK114 := n0_; have HB := n1_; clear n0_ n1_))) | ((with_reducible refine gate_callee (f := 122) rfl ?_); refine goesL_ (some 54) rfl rfl Tryz.func122 (by kernel_rfl) rfl #[.string a0] rfl (by (try simp only [List.map_toArray, List.map_cons, List.map_nil]); first | done | rfl | (simp only [List.length_drop, List.length_take]; rfl)) ?_; (with_reducible refine (lex_sign.calls k a0 t147 t148 t149 t150 t151 _ A39.out).mono ?_); rintro e w41 ⟨rfl, hb⟩; refine ⟨_, rfl, ?_⟩; have n0_ := Aside0.mk (blk_below (g := gb114) (o := .cells #[.int .i64 0, .int .i64 0, .string (⟨#[]⟩ : ByteArray), .int .i32 0] 77 (0, 0)) (by (with_reducible repeat (first | refine blk_drewN ?_ _ | refine blk_drew ?_ | refine blk_alloc ?_ _)); exact BK114.out) hb); have n1_ := Aside0.mk (below_step (by repeat (first | (with_reducible first | exact HB.out | apply below_alloc | apply pw_below_drewN | apply below_drew1 | refine below_set ?_ GE114.out) | exact HB.out)) hb); clear BK114; clear HB; have BK114 := n0_; have HB := n1_; clear n0_ n1_; (try clear hb); (try clear hb2); (try clear hk); (try clear hi); have hcz42_0 : w41.cell? ⟨gb114, 0, none⟩ = some (.int .i64 0) := (blk_cell BK114.out 0).trans rfl; have hcz42_1 : w41.cell? ⟨gb114, 1, none⟩ = some (.int .i64 0) := (blk_cell BK114.out 1).trans rfl; have hcz42_2 : w41.cell? ⟨gb114, 2, none⟩ = some (.string (⟨#[]⟩ : ByteArray)) := (blk_cell BK114.out 2).trans rfl; have hcz42_3 : w41.cell? ⟨gb114, 3, none⟩ = some (.int .i32 0) := (blk_cell BK114.out 3).trans rfl; have hfz42_0 := blk_frozen BK114.out 0; have hfz42_1 := blk_frozen BK114.out 1; have hfz42_2 := blk_frozen BK114.out 2; have hfz42_3 := blk_frozen BK114.out 3))
         refine bodyPost_ret (results_ct rfl _ _ gb114 77 #[.int .i64 t147, .int .i64 t148, .string t149, .int .i32 t150] (0, 0) _ rfl (by (with_reducible repeat (first | refine blk_drewN ?_ _ | refine blk_drew ?_ | refine blk_alloc ?_ _)); refine blk_put (cs := #[.int .i64 t147, .int .i64 t148, .string t149, .int .i32 0]) ?_ 3 _ rfl; (with_reducible repeat (first | refine blk_drewN ?_ _ | refine blk_drew ?_ | refine blk_alloc ?_ _)); refine blk_put (cs := #[.int .i64 t147, .int .i64 t148, .string (⟨#[]⟩ : ByteArray), .int .i32 0]) ?_ 2 _ rfl; (with_reducible repeat (first | refine blk_drewN ?_ _ | refine blk_drew ?_ | refine blk_alloc ?_ _)); refine blk_put (cs := #[.int .i64 t147, .int .i64 0, .string (⟨#[]⟩ : ByteArray), .int .i32 0]) ?_ 1 _ rfl; (with_reducible repeat (first | refine blk_drewN ?_ _ | refine blk_drew ?_ | refine blk_alloc ?_ _)); refine blk_put (cs := #[.int .i64 0, .int .i64 0, .string (⟨#[]⟩ : ByteArray), .int .i32 0]) ?_ 0 _ rfl; (with_reducible repeat (first | refine blk_drewN ?_ _ | refine blk_drew ?_ | refine blk_alloc ?_ _)); exact BK114.out) Tryz.underlying77 rfl (by kernel_rfl)) rfl ?_
         exact ⟨by first | rfl | (simp [errW_none, errW_some] <;> rfl) | (simp [*, errW_none, errW_some] <;> rfl), by repeat (first | (with_reducible first | exact HB.out | apply below_alloc | apply pw_below_drewN | apply below_drew1 | refine below_set ?_ GE114.out) | exact HB.out)⟩
 ·rw [if_neg c2] at H
  exact absurd H (by simp)

end Go.Proofs.YtfinjenkgpndlaaGreatDoor.PA

namespace Go.Proofs.YtfinjenkgpndlaaGreatDoor.PA
open Go.RowKit Go.Shelf Go.Proofs.YtfinjenkgpndlaaGreatDoorW.PrintWords Go.Proofs.YtfinjenkgpndlaaGreatDoorW.PrintLast Go.Proofs.YtfinjenkgpndlaaGreatDoorW.PrintMore
set_option linter.unusedVariables false
set_option linter.unusedSimpArgs false

def blankN : List UInt8 → Nat
  | [] => 0
  | c :: cs => if isBl c then blankN cs + 1 else 0
def plainC (d : UInt8) : Bool := d.toNat < 128 && d != 10 && d != 92
def tok1 : List UInt8 → Option (Tok × Nat)
  | [] => none
  | c :: cs => if c == 39 then
      match cs with
      | [] => none
      | d :: ds => if plainC d then some (⟨4, 0, ⟨#[]⟩, d.toNat⟩, 2) else none
    else if isSg c then some (⟨6, 0, ⟨#[c]⟩, 0⟩, 1) else none
theorem blankN_le : ∀ l, blankN l ≤ l.length
  | [] => Nat.le_refl _
  | c :: cs => by
    have := blankN_le cs
    unfold blankN
    split <;> simp <;> omega
theorem blankN_is : ∀ (l : List UInt8) (i : Nat), i < blankN l → ∃ c, l[i]? = some c ∧ isBl c = true
  | [], i, h => by simp [blankN] at h
  | c :: cs, i, h => by
    unfold blankN at h
    split at h
    · rename_i hc
      cases i with
      | zero => exact ⟨c, rfl, hc⟩
      | succ i => simpa using blankN_is cs i (by omega)
    · omega
theorem blankN_not : ∀ (l : List UInt8) (c : UInt8), l[blankN l]? = some c → isBl c = false
  | [], c, h => by simp at h
  | d :: ds, c, h => by
    unfold blankN at h
    split at h
    · exact blankN_not ds c (by simpa using h)
    · rename_i hd
      simp at h
      subst h
      simpa using hd
theorem scan_blank : ∀ (l : List UInt8) (p : Nat), scanL l p = scanL (l.drop (blankN l)) (p + blankN l)
  | [], p => by simp [blankN, scanL]
  | c :: cs, p => by
    by_cases hc : isBl c = true
    · have e : blankN (c :: cs) = blankN cs + 1 := by show (if isBl c then _ else _) = _; rw [if_pos hc]
      have e2 : scanL (c :: cs) p = scanL cs (p + 1) := by rw [scanL.eq_def]; simp only [hc, if_true]
      rw [e, e2, List.drop_succ_cons, scan_blank cs (p + 1)]
      congr 1
      omega
    · have e : blankN (c :: cs) = 0 := by show (if isBl c then _ else _) = _; rw [if_neg hc]
      rw [e, List.drop_zero, Nat.add_zero]
theorem scan_step {l : List UInt8} {p : Nat} {ts : List Tok} (h : scanL l p = some ts) (hb : ∀ c, l[0]? = some c → isBl c = false) (hne : l ≠ []) :
    ∃ t n r, tok1 l = some (t, n) ∧ ts = { t with f1 := (p : Int) } :: r ∧ 0 < n ∧ n ≤ l.length ∧ scanL (l.drop n) (p + n) = some r := by
  cases l with
  | nil => exact absurd rfl hne
  | cons c cs =>
    have hc := hb c rfl
    rw [scanL.eq_def] at h
    dsimp only at h
    rw [if_neg (by rw [hc]; simp)] at h
    unfold tok1
    dsimp only
    by_cases h39 : (c == 39) = true
    · rw [if_pos h39] at h ⊢
      cases cs with
      | nil => cases h
      | cons d ds =>
        dsimp only at h ⊢
        by_cases hd : plainC d = true
        · have hd' : (decide (d.toNat < 128) && d != 10 && d != 92) = true := hd
          rw [if_pos hd'] at h
          rw [if_pos hd]
          obtain ⟨r, hr, rfl⟩ := Option.map_eq_some_iff.1 h
          exact ⟨_, 2, r, rfl, rfl, by omega, by simp, hr⟩
        · have hd' : ¬ (decide (d.toNat < 128) && d != 10 && d != 92) = true := hd
          rw [if_neg hd'] at h; cases h
    · rw [if_neg h39] at h ⊢
      by_cases hs : isSg c = true
      · rw [if_pos hs] at h ⊢
        obtain ⟨r, hr, rfl⟩ := Option.map_eq_some_iff.1 h
        exact ⟨_, 1, r, rfl, rfl, by omega, by simp, hr⟩
      · rw [if_neg hs] at h; cases h
theorem scan_hash {l : List UInt8} {p : Nat} {ts : List Tok} (h : scanL l p = some ts) (c : UInt8) (hc : l[blankN l]? = some c) : c ≠ 35 := by
  rw [scan_blank] at h
  have hd : (l.drop (blankN l))[0]? = some c := by rw [List.getElem?_drop]; simpa using hc
  have hne : l.drop (blankN l) ≠ [] := by intro e; rw [e] at hd; simp at hd
  obtain ⟨t, n, r, h1, _⟩ := scan_step h (fun c' h' => by rw [hd] at h'; cases h'; exact blankN_not l c hc) hne
  rintro rfl
  cases hl : l.drop (blankN l) with
  | nil => exact hne hl
  | cons a bs =>
    rw [hl] at hd h1
    simp at hd
    subst hd
    revert h1
    unfold tok1
    dsimp only
    rw [if_neg (by decide), if_neg (by decide)]
    intro h1; cases h1
end Go.Proofs.YtfinjenkgpndlaaGreatDoor.PA

namespace Go.Proofs.YtfinjenkgpndlaaGreatDoor.PA
open Go.RowKit Go.Shelf Go.Proofs.YtfinjenkgpndlaaGreatDoorW.PrintWords Go.Proofs.YtfinjenkgpndlaaGreatDoorW.PrintLast Go.Proofs.YtfinjenkgpndlaaGreatDoorW.PrintMore
set_option linter.unusedVariables false
set_option linter.unusedSimpArgs false

set_option maxRecDepth 100000 in
set_option maxHeartbeats 4000000 in
theorem blank1_calls (c : Int) (w : World) : Calls Tryz.prog 112 #[.int .u8 c] w fun e w' => e = .returned (.bool (c == 32 || c == 9 || c == 13)) ∧ Below w.heap.size w w' := by
  by_cases h1 : c = 32
  · have e1 : (c == 32) = true := by simp [h1]
    clear h1
    go_enter Tryz.func112, Tryz.ntmps112
    go_wp2
    go_ret
    rw [e1]
    exact ⟨rfl, Below.refl _ _⟩
  have e1 : (c == 32) = false := beq_eq_false_iff_ne.2 h1
  by_cases h2 : c = 9
  · have e2 : (c == 9) = true := by simp [h2]
    clear h1 h2
    go_enter Tryz.func112, Tryz.ntmps112
    go_wp2
    go_ret
    rw [e1, e2]
    exact ⟨rfl, Below.refl _ _⟩
  have e2 : (c == 9) = false := beq_eq_false_iff_ne.2 h2
  clear h1 h2
  go_enter Tryz.func112, Tryz.ntmps112
  go_wp2
  go_ret
  rw [e1, e2]
  exact ⟨rfl, Below.refl _ _⟩
theorem isBl_int (x : UInt8) : (((x.toNat : Int) == 32) || ((x.toNat : Int) == 9) || ((x.toNat : Int) == 13)) = isBl x := by
  have key : ∀ n : Nat, n < 256 → (((x.toNat : Int) == (n : Int)) = (x == UInt8.ofNat n)) := by
    intro n hn
    by_cases h : x = UInt8.ofNat n
    · subst h
      simp [UInt8.toNat_ofNat, Nat.mod_eq_of_lt hn]
    · rw [beq_eq_false_iff_ne.2 h]
      apply beq_eq_false_iff_ne.2
      intro e
      apply h
      apply UInt8.toNat_inj.1
      simp [UInt8.toNat_ofNat, Nat.mod_eq_of_lt hn]
      omega
  have a := key 32 (by decide)
  have b := key 9 (by decide)
  have c := key 13 (by decide)
  unfold isBl
  rw [show ((32 : Int)) = ((32 : Nat) : Int) from rfl, show ((9 : Int)) = ((9 : Nat) : Int) from rfl, show ((13 : Int)) = ((13 : Nat) : Int) from rfl, a, b, c]
  rfl
theorem blankN_pos {l : List UInt8} {i : Nat} {c : UInt8} (hi : i ≤ blankN l) (hc : l[i]? = some c) (hb : isBl c = true) : i + 1 ≤ blankN l := by
  rcases Nat.lt_or_ge i (blankN l) with h | h
  · exact h
  · obtain rfl : i = blankN l := by omega
    rw [blankN_not l c hc] at hb; cases hb
theorem blankN_end {l : List UInt8} {i : Nat} {c : UInt8} (hi : i ≤ blankN l) (hc : l[i]? = some c) (hb : isBl c = false) : i = blankN l := by
  rcases Nat.lt_or_ge i (blankN l) with h | h
  · obtain ⟨d, hd, hbd⟩ := blankN_is l i h
    rw [hc] at hd; cases hd
    rw [hb] at hbd; cases hbd
  · omega
set_option maxRecDepth 100000 in
set_option maxHeartbeats 4000000 in
theorem many_blank (s : ByteArray) (hs : s.size ≤ 9223372036854775807) (w : World) : Calls Tryz.prog 111 #[.string s, .func (.func 112) #[] #[]] w fun e w' => e = .returned (.int .i64 (blankN s.data.toList : Nat)) ∧ Below w.heap.size w w' := by
  have hsz : s.data.toList.length = s.size := by rw [Array.length_toList]; rfl
  have hle := blankN_le s.data.toList
  go_enter Tryz.func111, Tryz.ntmps111
  go_wp2
  go_loopg [5] s.size (fun gk v5 wr => ∃ i : Nat, v5 = .int .i64 i ∧ i ≤ blankN s.data.toList ∧ s.size - i ≤ gk ∧ Hid (Below w.heap.size w wr))
  case atStart => exact ⟨0, rfl, Nat.zero_le _, by omega, Lib.hid (Below.refl _ _)⟩
  case round =>
    obtain ⟨i, rfl, hi, hm, HBW⟩ := hrel
    by_cases hlt : i < s.size
    · have hc : s.data.toList[i]? = some (s.data[i]) := by
        rw [Array.getElem?_toList]; exact Array.getElem?_eq_getElem hlt
      have d1 : decide ((i : Int) < (s.size : Int)) = true := decide_eq_true (by omega)
      have HBL := Lib.hid (fun W => blank1_calls (s[i].toNat : Int) W)
      rw [isBl_int] at HBL
      by_cases hb : isBl s[i] = true
      · have hi2 := blankN_pos hi hc hb
        rw [hb] at HBL
        have hw : IntKind.i64.wrap ((i : Int) + 1) = (i : Int) + 1 := IntWalk.i64_in _ (by omega)
        clear hb hc
        go_wp2_with (go_at_call 112; refine (HBL.out _).mono ?_; rintro e w2 ⟨rfl, hb2⟩; have HB2 := Lib.hid (HBW.out.trans (hb2.mono HBW.out.size)); clear hb2)
        go_roundg (s.size - (i + 1))
        case measure => omega
        case rel => exact ⟨i + 1, by simp, hi2, Nat.le_refl _, HB2⟩
      · have hb' : isBl s[i] = false := by simpa using hb
        have hi2 := Lib.hid (blankN_end hi hc hb')
        rw [hb'] at HBL
        clear hb hb' hc
        go_wp2_with (go_at_call 112; refine (HBL.out _).mono ?_; rintro e w2 ⟨rfl, hb2⟩; have HB2 := Lib.hid (HBW.out.trans (hb2.mono HBW.out.size)); clear hb2)
        go_ret
        exact ⟨congrArg (fun n : Nat => Ending.returned (.int .i64 (n : Int))) hi2.out, HB2.out⟩
    · have hi2 := Lib.hid (show i = blankN s.data.toList by omega)
      have d1 : decide ((i : Int) < (s.size : Int)) = false := decide_eq_false (by omega)
      go_wp2
      go_ret
      exact ⟨congrArg (fun n : Nat => Ending.returned (.int .i64 (n : Int))) hi2.out, HBW.out⟩
set_option maxRecDepth 100000 in
set_option maxHeartbeats 4000000 in
theorem blank_calls (s : ByteArray) (hs : s.size ≤ 9223372036854775807) (hx : ∀ c, s.data.toList[blankN s.data.toList]? = some c → c ≠ 35) (w : World) : Calls Tryz.prog 86 #[.string s] w fun e w' => e = .returned (.int .i64 (blankN s.data.toList : Nat)) ∧ Below w.heap.size w w' := by
  have hsz : s.data.toList.length = s.size := by rw [Array.length_toList]; rfl
  have hle := blankN_le s.data.toList
  have HM := Lib.hid (many_blank s hs w)
  generalize blankN s.data.toList = n at *
  by_cases hlt : n < s.size
  · have hc : s.data.toList[n]? = some (s.data[n]) := by
      rw [Array.getElem?_toList]; exact Array.getElem?_eq_getElem hlt
    have hne : ((s[n].toNat : Int) == 35) = false := by
      apply beq_eq_false_iff_ne.2
      intro e
      apply hx _ hc
      apply UInt8.toNat_inj.1
      show s[n].toNat = 35
      omega
    have d1 : decide ((n : Int) < (s.size : Int)) = true := decide_eq_true (by omega)
    clear hx hc
    go_enter Tryz.func86, Tryz.ntmps86
    go_wp2_with (go_at_call 111; refine HM.out.mono ?_; rintro e w2 ⟨rfl, hb2⟩; have HB2 := Lib.hid hb2; clear hb2)
    go_ret
    exact ⟨rfl, HB2.out⟩
  · have d1 : decide ((n : Int) < (s.size : Int)) = false := decide_eq_false (by omega)
    clear hx
    go_enter Tryz.func86, Tryz.ntmps86
    go_wp2_with (go_at_call 111; refine HM.out.mono ?_; rintro e w2 ⟨rfl, hb2⟩; have HB2 := Lib.hid hb2; clear hb2)
    go_ret
    exact ⟨rfl, HB2.out⟩
end Go.Proofs.YtfinjenkgpndlaaGreatDoor.PA

namespace Go.Proofs.YtfinjenkgpndlaaGreatDoor.PA
open Go.RowKit Go.Shelf Go.Proofs.YtfinjenkgpndlaaGreatDoorW.PrintWords Go.Proofs.YtfinjenkgpndlaaGreatDoorW.PrintLast Go.Proofs.YtfinjenkgpndlaaGreatDoorW.PrintMore
set_option linter.unusedVariables false
set_option linter.unusedSimpArgs false

theorem bt_head (c : UInt8) (cs : List UInt8) : bt ⟨⟨c :: cs⟩⟩ 0 = (c.toNat : Int) := by
  unfold bt
  rw [dif_pos (show (0 : Int).toNat < (⟨⟨c :: cs⟩⟩ : ByteArray).size from Nat.succ_pos _)]
  rfl
theorem extract_head (c : UInt8) (cs : List UInt8) : (⟨⟨c :: cs⟩⟩ : ByteArray).extract 0 1 = ⟨#[c]⟩ := by
  apply ByteArray.ext
  simp
theorem extract_tail (c : UInt8) (cs : List UInt8) : ((⟨⟨c :: cs⟩⟩ : ByteArray).extract 1 (⟨⟨c :: cs⟩⟩ : ByteArray).size).data.toList = cs := by
  simp [ByteArray.size]
theorem sign_eq (c : UInt8) (cs : List UInt8) (h : isSg c = true) : lex_one.f 1 ⟨⟨c :: cs⟩⟩ = some (6, 0, ⟨#[c]⟩, 0, 1) := by
  have hsz : (0 : Int) < ((⟨⟨c :: cs⟩⟩ : ByteArray).size : Int) := by
    have : (⟨⟨c :: cs⟩⟩ : ByteArray).size = cs.length + 1 := rfl
    omega
  have hsz1 : (1 : Int) ≤ ((⟨⟨c :: cs⟩⟩ : ByteArray).size : Int) := by omega
  have hp : lex_sign.f 1 ⟨⟨c :: cs⟩⟩ = some (6, 0, ⟨#[c]⟩, 0, 1) := by
    unfold lex_sign.f
    have q1 : strings_HasPrefix.f ⟨⟨c :: cs⟩⟩ ⟨#[62, 60]⟩ = some false := by
      unfold isSg at h
      simp only [Bool.or_eq_true, beq_iff_eq] at h
      unfold strings_HasPrefix.f Lib.hasPrefix
      rcases h with (((((((((((h | h) | h) | h) | h) | h) | h) | h) | h) | h) | h) | h) | h <;> subst h <;> rfl
    have q2 : strings_HasPrefix.f ⟨⟨c :: cs⟩⟩ ⟨#[60, 62]⟩ = some false := by
      unfold isSg at h
      simp only [Bool.or_eq_true, beq_iff_eq] at h
      unfold strings_HasPrefix.f Lib.hasPrefix
      rcases h with (((((((((((h | h) | h) | h) | h) | h) | h) | h) | h) | h) | h) | h) | h <;> subst h <;> rfl
    have q3 : ∃ n : Int, 0 ≤ n ∧ strings_IndexByte.f ⟨#[91, 93, 40, 41, 124, 42, 43, 63, 46, 94, 45, 58, 61]⟩ (c.toNat : Int) = some n := by
      unfold isSg at h
      simp only [Bool.or_eq_true, beq_iff_eq] at h
      rcases h with (((((((((((h | h) | h) | h) | h) | h) | h) | h) | h) | h) | h) | h) | h <;> subst h <;> exact ⟨_, by decide, rfl⟩
    obtain ⟨n, hn, q3⟩ := q3
    rw [q1, Option.bind_some, if_neg (by decide), q2, Option.bind_some]
    unfold lex_sign.j0
    dsimp only
    rw [if_neg (by decide), if_pos hsz, bt_head, q3, Option.bind_some, if_pos hn, if_pos (by decide), if_pos hsz1, extract_head]
  unfold lex_one.f
  rw [if_pos hsz, bt_head, hp]
  unfold isSg at h
  simp only [Bool.or_eq_true, beq_iff_eq] at h
  rcases h with (((((((((((h | h) | h) | h) | h) | h) | h) | h) | h) | h) | h) | h) | h <;> subst h <;> rfl
theorem char_eq (d : UInt8) (ds : List UInt8) (h : plainC d = true) : lex_one.f 1 ⟨⟨39 :: d :: ds⟩⟩ = some (4, 0, (⟨#[]⟩ : ByteArray), (d.toNat : Int), 2) := by
  have hsz : (0 : Int) < ((⟨⟨39 :: d :: ds⟩⟩ : ByteArray).size : Int) := by
    have : (⟨⟨39 :: d :: ds⟩⟩ : ByteArray).size = ds.length + 2 := rfl
    omega
  have hsz1 : (1 : Int) ≤ ((⟨⟨39 :: d :: ds⟩⟩ : ByteArray).size : Int) := by omega
  unfold plainC at h
  simp only [Bool.and_eq_true, decide_eq_true_eq, bne_iff_ne, ne_eq] at h
  obtain ⟨⟨h1, h2⟩, h3⟩ := h
  have e10 : ¬ ((d.toNat : Int) = 10) := fun e => h2 (UInt8.toNat_inj.1 (by show d.toNat = 10; omega))
  have e92 : ¬ ((d.toNat : Int) = 92) := fun e => h3 (UInt8.toNat_inj.1 (by show d.toNat = 92; omega))
  have hp : lex_char.f ⟨⟨39 :: d :: ds⟩⟩ = some (4, 0, (⟨#[]⟩ : ByteArray), (d.toNat : Int), 2) := by
    unfold lex_char.f
    have q1 : strings_HasPrefix.f ⟨⟨39 :: d :: ds⟩⟩ ⟨#[39, 92, 117, 123]⟩ = some false := by
      unfold strings_HasPrefix.f Lib.hasPrefix
      have : ((92 : UInt8) == d) = false := beq_eq_false_iff_ne.2 fun e => h3 e.symm
      simp [List.isPrefixOf, this]
    have q2 : utf8_DecodeRuneInString.f ((⟨⟨39 :: d :: ds⟩⟩ : ByteArray).extract 1 (⟨⟨39 :: d :: ds⟩⟩ : ByteArray).size) = some ((d.toNat : Int), 1) := by
      unfold utf8_DecodeRuneInString.f
      rw [extract_tail]
      dsimp only
      rw [if_pos h1]
    rw [q1, Option.bind_some, if_neg (by decide), if_pos hsz1, q2, Option.bind_some]
    dsimp only
    rw [if_neg (by decide), if_neg (show ¬ ((d.toNat : Int) = 65533) by omega), if_neg e10, if_neg e92, show wrap64 (1 + 1) = 2 from by first | decide | (unfold wrap64; decide) | simp [wrap64]]
  unfold lex_one.f
  rw [if_pos hsz, bt_head, hp]
  rfl
theorem one_eq {s : ByteArray} {t : Tok} {n : Nat} (h : tok1 s.data.toList = some (t, n)) : lex_one.f 1 s = some (t.f0, t.f1, t.f2, t.f3, (n : Int)) := by
  obtain ⟨⟨l⟩⟩ := s
  cases l with
  | nil => cases h
  | cons c cs =>
    unfold tok1 at h
    dsimp only at h
    by_cases hc : (c == 39) = true
    · rw [if_pos hc] at h
      obtain rfl : c = 39 := by simpa using hc
      cases cs with
      | nil => cases h
      | cons d ds =>
        dsimp only at h
        by_cases hd : plainC d = true
        · rw [if_pos hd] at h
          cases h
          exact char_eq d ds hd
        · rw [if_neg hd] at h; cases h
    · rw [if_neg hc] at h
      by_cases hs : isSg c = true
      · rw [if_pos hs] at h
        cases h
        exact sign_eq c cs hs
      · rw [if_neg hs] at h; cases h
end Go.Proofs.YtfinjenkgpndlaaGreatDoor.PA

namespace Go.Proofs.YtfinjenkgpndlaaGreatDoor.PA
open Go.RowKit Go.Shelf Go.Proofs.YtfinjenkgpndlaaGreatDoorW.PrintWords Go.Proofs.YtfinjenkgpndlaaGreatDoorW.PrintLast Go.Proofs.YtfinjenkgpndlaaGreatDoorW.PrintMore

structure KeepsOf (S : Nat → Prop) (W W' : World) : Prop where
  size : W.heap.size ≤ W'.heap.size
  same : ∀ b, S b → W'.heap[b]? = W.heap[b]?
theorem KeepsOf.refl (S : Nat → Prop) (W : World) : KeepsOf S W W := ⟨Nat.le_refl _, fun _ _ => rfl⟩
theorem KeepsOf.trans {S : Nat → Prop} {A B C : World} (h : KeepsOf S A B) (k : KeepsOf S B C) : KeepsOf S A C := ⟨Nat.le_trans h.size k.size, fun b hb => (k.same b hb).trans (h.same b hb)⟩
theorem KeepsOf.of_grownBy {S : Nat → Prop} {W W' : World} {row : Option Nat} (hg : W.grownBy W' row) (hS : ∀ b, S b → b < W.heap.size ∧ some b ≠ row) : KeepsOf S W W' := ⟨hg.size, fun b hb => hg.block b (hS b hb).1 (hS b hb).2⟩
theorem KeepsOf.cell {S : Nat → Prop} {W W' : World} (h : KeepsOf S W W') {a : Addr} (ha : S a.block) {v : Value} (hc : W.cell? a = some v) : W'.cell? a = some v := (World.cell?_of_block (h.same _ ha)).trans hc
theorem KeepsOf.of_below {S : Nat → Prop} {W W' : World} (h : Below W.heap.size W W') (hS : ∀ b, S b → b < W.heap.size) : KeepsOf S W W' := ⟨h.size, fun b hb => h.block b (hS b hb)⟩
section
variable {F : Fence} {n : Nat} {P : Program} {ops : Array Oper} {rest : List Oper} {o : Oper} {a : Act} {Q : Exit → Act → World → Prop} {α : Type}
theorem R_appendIn (d : Kd α) {W : World} (base : Nat) (hgd : o.guard = none) (s x : Operand) (t e : TypeId) (z : Value) (bytes : Nat)
    (ho : o.op = .call { callee := .builtin .append, args := #[s, x], argTypes := #[t, t] })
    (ht : P.underlying t = some (.slice e)) (hinfo : (P.info? e).map (fun i => (i.zero, i.size, i.bytes)) = some (some z, d.sz, bytes)) (hz : z.cells.size = d.sz) (hs0 : 0 < d.sz) (hb0 : 0 < bytes)
    (v : Value) (xs : List α) (p : α) (cs : List Value) (ok okp : Nat → Prop) (hs : a.eval s = v) (hx : a.eval x = .slice (some ⟨W.heap.size, 0, none⟩) 1 1) (hp : d.M W base okp p cs) (hokp : ∀ k, okp k → ok k ∧ some k ≠ v.ownBlock) (hfresh : ∀ k, W.heap.size ≤ k → ok k)
    (HO : d.R e W base ok v xs) (hbase : base ≤ W.heap.size) (hl : (xs.length + 1) * bytes ≤ 140737488355328)
    (h : ∀ v1 w1, d.R e w1 base ok v1 (xs ++ [p]) → W.grownBy w1 v.ownBlock → (v1.ownBlock = v.ownBlock ∨ ∃ b, v1.ownBlock = some b ∧ W.heap.size ≤ b) → wpListIn F n P ops Q rest (a.put o.dst v1) w1) :
    wpListIn F n P ops Q (o :: rest) a (W.alloc (.cells cs.toArray e)) := by
  obtain ⟨h0, inner, hown, hr⟩ := HO
  obtain ⟨i0, hi, hzz⟩ := Option.map_eq_some_iff.1 hinfo
  simp only [Prod.mk.injEq] at hzz
  obtain ⟨hz0, hz1, hz2⟩ := hzz
  have hlen : xs.length + 1 ≤ 140737488355328 := Nat.le_trans (Nat.le_mul_of_pos_right _ hb0) hl
  refine wpListIn_append_own_at (W.alloc (.cells cs.toArray e)) hgd s x t ho base e i0 z d.sz bytes ht hi hz0 hz1 hz2 hz hs0 v xs.length inner hs (hown.alloc _) ⟨W.heap.size, 0, none⟩ 1 1 cs hx (by rw [d.K_len (d.K_of_M hp)]; simp)
    (by simpa using World.news_of_block (cs := cs.toArray) (t := e) (fr := (0, 0)) (heap_alloc_new W (.cells cs.toArray e))) (d.K_one (d.K_of_M hp)) (by simp only [maxLen]; omega) hl (by simp; omega) ?_
  intro v1 w1 hown1 hg _ hat
  have hg1 := World.grownBy.trans (World.grownBy_alloc W _ _) hg
  have hat1 : v1.ownBlock = v.ownBlock ∨ ∃ b, v1.ownBlock = some b ∧ W.heap.size ≤ b := by
    rcases hat with hat | hat
    · exact .inl hat
    · exact .inr ⟨_, hat, by simp⟩
  exact h v1 w1 (Kd.R_appended h0 hr hp hokp hfresh hown1 hg1 hat1) hg1 hat1
end
theorem collected {α : Type} {d : Kd α} {base e B0 tb B : Nat} {S : Nat → Prop} {W W1 : World} {v v1 : Value} {xs ys : List α}
    (hv : Boxed W B0 tb v) (hR : d.R e W base (fun _ => True) v xs) (hR1 : d.R e W1 base (fun _ => True) v1 ys) (hg : W.grownBy W1 v.ownBlock) (ht : ∀ q, q ∈ e :: d.E → q ≠ tb) (hS : ∀ b, S b → b < base ∧ b < W.heap.size ∧ b ≠ B0) :
    Boxed W1 B0 tb v ∧ Boxed (W1.setCell ⟨B0, 0, none⟩ v1) B0 tb v1 ∧ d.R e (W1.setCell ⟨B0, 0, none⟩ v1) base (fun _ => True) v1 ys ∧ KeepsFrom B W (W1.setCell ⟨B0, 0, none⟩ v1) ∧ KeepsOf S W (W1.setCell ⟨B0, 0, none⟩ v1) ∧ (∀ n₀, n₀ ≤ base → n₀ ≤ B0 → n₀ ≤ W.heap.size → Below n₀ W (W1.setCell ⟨B0, 0, none⟩ v1)) := by
  have hne : some B0 ≠ v.ownBlock := by
    obtain ⟨_, inner, hown, _⟩ := hR
    exact hv.not_row (fun e' => ht e (List.mem_cons_self ..) e'.symm) hown
  have hv1 : Boxed W1 B0 tb v := hv.kept hg hne
  obtain ⟨_, inner, hown, _⟩ := id hR
  have hcellrow : ∀ (j : Nat) (o : Obj), v.ownBlock = some j → W.heap[j]? = some o → o.isCells = true := fun j o hj ho => by
    obtain ⟨c, hc⟩ := own_typed hown j hj
    rw [hc] at ho; cases ho; rfl
  have hst : W1.grownBy (W1.setCell ⟨B0, 0, none⟩ v1) (some B0) := grownBy_setCell' _ _ _
  refine ⟨hv1, hv1.set v1, Kd.R_set hR1 hv1 ht 0 v1, ((KeepsOthers.of_grownBy hg fun j o hj ho => hcellrow j o hj ho).trans (KeepsOthers.setCell _ _ _)).from B, ⟨Nat.le_trans hg.size hst.size, fun b hb => ?_⟩, fun n₀ h1 h2 h3 => ?_⟩
  · obtain ⟨hb1, hb2, hb3⟩ := hS b hb
    refine (hst.block b (Nat.lt_of_lt_of_le hb2 hg.size) (fun e' => hb3 (by cases e'; rfl))).trans (hg.block b hb2 fun e' => ?_)
    have := own_base hown b e'.symm; omega
  · exact ((Below.refl n₀ W).grown hg h3 (fun k hk => by have := own_base hown k hk; omega)).setCell (p := ⟨B0, 0, none⟩) h2 v1
end Go.Proofs.YtfinjenkgpndlaaGreatDoor.PA

namespace Go.Proofs.YtfinjenkgpndlaaGreatDoor.PA
open Go.RowKit Go.Shelf Go.Proofs.YtfinjenkgpndlaaGreatDoorW.PrintWords Go.Proofs.YtfinjenkgpndlaaGreatDoorW.PrintLast Go.Proofs.YtfinjenkgpndlaaGreatDoorW.PrintMore
set_option linter.unusedVariables false
set_option linter.unusedSimpArgs false

def loopish : Obj → Bool
  | .loop _ => true
  | .deferred _ => true
  | .mapIter .. => true
  | _ => false
structure TurnFrom (B : Nat) (W W' : World) : Prop where
  os : W'.os = W.os
  tape : W'.tape = W.tape
  output : W'.output = W.output
  size : W.heap.size ≤ W'.heap.size
  same : ∀ (k : Nat) (o : Obj), W.heap[k]? = some o → (k < B ∨ loopish o = false) → W'.heap[k]? = some o
theorem TurnFrom.refl (B : Nat) (W : World) : TurnFrom B W W := ⟨rfl, rfl, rfl, Nat.le_refl _, fun _ _ h _ => h⟩
theorem TurnFrom.trans {B : Nat} {X Y Z : World} (h : TurnFrom B X Y) (k : TurnFrom B Y Z) : TurnFrom B X Z :=
  ⟨k.os.trans h.os, k.tape.trans h.tape, k.output.trans h.output, Nat.le_trans h.size k.size, fun i o hi ho => k.same i o (h.same i o hi ho) ho⟩
theorem TurnFrom.alloc (B : Nat) (W : World) (o : Obj) : TurnFrom B W (W.alloc o) :=
  ⟨rfl, rfl, rfl, by simp, fun k o' hk _ => (Below.heap_alloc W o k (Array.getElem?_eq_some_iff.1 hk).1).trans hk⟩
theorem TurnFrom.putObj {B : Nat} {W : World} {l : Nat} {o : Obj} (o' : Obj) (hB : B ≤ l) (hl : W.heap[l]? = some o) (ho : loopish o = true) : TurnFrom B W (W.putObj l o') :=
  ⟨rfl, rfl, rfl, by simp, fun k o2 hk h => (World.putObj_heap_other (fun e => by
    subst e; rw [hk] at hl; cases hl
    rcases h with h | h
    · omega
    · rw [ho] at h; cases h)).trans hk⟩
theorem TurnFrom.lower {B B' : Nat} {W W' : World} (h : TurnFrom B' W W') (hB : B ≤ B') : TurnFrom B W W' :=
  ⟨h.os, h.tape, h.output, h.size, fun k o hk ho => h.same k o hk (ho.elim (fun q => .inl (by omega)) .inr)⟩
theorem TurnFrom.of_below {B : Nat} {W W' : World} (h : Below W.heap.size W W') : TurnFrom B W W' :=
  ⟨h.os, h.tape, h.output, h.size, fun k o hk _ => (h.block k (Array.getElem?_eq_some_iff.1 hk).1).trans hk⟩
theorem TurnFrom.cell {B : Nat} {W W' : World} (h : TurnFrom B W W') {a : Addr} {v : Value} (hc : W.cell? a = some v) : W'.cell? a = some v := by
  obtain ⟨o, ho, hcl⟩ := cells_of_cell hc
  refine (World.cell?_of_block ((h.same _ _ ho (.inr ?_)).trans ho.symm)).trans hc
  cases o <;> first | rfl | (simp [Obj.isCells] at hcl)
theorem TurnFrom.below {B : Nat} {w W W' : World} (h : TurnFrom B W W') (hb : Below w.heap.size w W) (hB : w.heap.size ≤ B) : Below w.heap.size w W' := by
  refine hb.trans ⟨h.os, h.tape, h.output, h.size, fun k hk => ?_⟩
  have hlt : k < W.heap.size := Nat.lt_of_lt_of_le hk hb.size
  rw [Array.getElem?_eq_getElem hlt]
  exact h.same k _ (Array.getElem?_eq_getElem hlt) (.inl (by omega))

def rowishT (T : List Nat) : Obj → Bool
  | .cells _ t _ => T.contains t
  | _ => false
structure KpT (T : List Nat) (B : Nat) (W W' : World) : Prop where
  size : W.heap.size ≤ W'.heap.size
  same : ∀ (k : Nat) (o : Obj), W.heap[k]? = some o → (k < B ∨ rowishT T o = false) → W'.heap[k]? = some o
theorem KpT.refl (T : List Nat) (B : Nat) (W : World) : KpT T B W W := ⟨Nat.le_refl _, fun _ _ h _ => h⟩
theorem KpT.trans {T : List Nat} {B : Nat} {X Y Z : World} (h : KpT T B X Y) (k : KpT T B Y Z) : KpT T B X Z := ⟨Nat.le_trans h.size k.size, fun i o hi ho => k.same i o (h.same i o hi ho) ho⟩
theorem KpT.of_below {T : List Nat} {B : Nat} {W W' : World} (h : Below W.heap.size W W') : KpT T B W W' := ⟨h.size, fun k o hk _ => (h.block k (Array.getElem?_eq_some_iff.1 hk).1).trans hk⟩
theorem KpT.round {T : List Nat} {B : Nat} {W W3 : World} {l : Nat} {o o' : Obj} (hl : W.heap[l]? = some o) (h : KpT T B (W.putObj l o') W3) : KpT T B W (W3.putObj l o) := by
  have hlt : l < W.heap.size := (Array.getElem?_eq_some_iff.1 hl).1
  refine ⟨by have := h.size; simp at this ⊢; omega, fun k o2 hk ho2 => ?_⟩
  by_cases e : k = l
  · subst e
    rw [hk] at hl; cases hl
    exact World.putObj_heap_same (by have := h.size; simp at this; omega)
  · exact (World.putObj_heap_other e).trans (h.same k o2 ((World.putObj_heap_other e).trans hk) ho2)
structure KpE (T : List Nat) (s B : Nat) (W W' : World) : Prop where
  size : W.heap.size ≤ W'.heap.size
  same : ∀ (k : Nat) (o : Obj), W.heap[k]? = some o → (k < B ∨ rowishT T o = false) → s ≤ k → W'.heap[k]? = some o
theorem KpT.e {T : List Nat} {B : Nat} {W W' : World} (h : KpT T B W W') (s : Nat) : KpE T s B W W' := ⟨h.size, fun k o hk ho _ => h.same k o hk ho⟩
def Calm (T : List Nat) (B : Nat) (W : World) (b : Nat) : Prop := ∃ o : Obj, W.heap[b]? = some o ∧ (b < B ∨ rowishT T o = false)
theorem KpT.block {T : List Nat} {B : Nat} {W W' : World} (h : KpT T B W W') {b : Nat} (hc : Calm T B W b) : W'.heap[b]? = W.heap[b]? := by
  obtain ⟨o, ho, hb⟩ := hc
  rw [ho]; exact h.same b o ho hb
theorem Calm.kept {T : List Nat} {B : Nat} {W W' : World} {b : Nat} (h : Calm T B W b) (e : W'.heap[b]? = W.heap[b]?) : Calm T B W' b := by
  obtain ⟨o, ho, hb⟩ := h
  exact ⟨o, e.trans ho, hb⟩

theorem roundIn_depth {n m : Nat} {P : Program} {l : Nat} {f : FuncId} {tmps : Array Value} {assign body : Code} {w : World} {R : Ending → World → Prop} (h : RoundIn Fence.wide n P l f tmps assign body w R) : RoundIn Fence.wide m P l f tmps assign body w R :=
  ⟨h.1, fun c cs _ => h.2 c cs (room_wide _)⟩
theorem callsIn_depth {n m : Nat} {P : Program} {f : FuncId} {args : Array Value} {w : World} {R : Ending → World → Prop} (h : CallsIn Fence.wide n P f args w R) : CallsIn Fence.wide m P f args w R := callsIn_wide.2 (callsIn_wide.1 h)

def Iter {α : Type} (T : List Nat) (P : Program) (B0 gf : Nat) (lb : Array Value) (encs : α → Array Value) (xs : List α) (W : World) : Prop :=
  ∀ (l : Nat) (J : Nat → World → Prop) (Jx : World → Prop), (∀ i A B, J i A → TurnFrom W.heap.size A B → J i B) → (∀ A B, Jx A → TurnFrom W.heap.size A B → Jx B) →
    (∀ (i : Nat) (x : α) (A : World), xs[i]? = some x → J i A → ∀ m, YieldAt Fence.wide m P l (encs x) A fun e B => (e = .returned (.bool true) ∧ J (i + 1) B ∧ KpT T B0 A B) ∨ (e = .returned (.bool false) ∧ Jx B ∧ KpE T W.heap.size B0 A B)) →
    J 0 W → ∀ n, CallsIn Fence.wide n P gf (#[.func (.yield l) #[] #[]] ++ lb) W fun e B => (∃ v, e = .returned v) ∧ (J xs.length B ∨ Jx B)

def turnPost (T : List Nat) (s B0 : Nat) (I : Nat → World → Prop) (Ix : World → Prop) (i : Nat) (W : World) : Exit → Act → World → Prop
  | .normal, _, W' => KpT T B0 W W' ∧ I (i + 1) W'
  | .ret, _, W' => KpE T s B0 W W' ∧ Ix W'
  | _, _, _ => False

theorem range_turn {α : Type} {T : List Nat} {P : Program} {n B0 : Nat} {g : Operand} {ps : Array Tmp} {assign body : Code} {Q : Exit → Act → World → Prop} {a : Act} {w : World}
    {gf : Nat} {lb : Array Value} (hg : a.eval g = .func (.func gf) #[] lb) (eg : ∀ args w, (callFunc gf args).run P w = .ok (.enter gf args) w) {encs : α → Array Value} (hps : ∀ x, (encs x).size = ps.size) {xs : List α}
    (hit : ∀ r, Iter T P B0 gf lb encs xs ((w.alloc (.deferred (some []))).alloc (.loop r)))
    (I : Nat → World → Prop) (Ix : World → Prop) (hI : ∀ i A B, I i A → TurnFrom w.heap.size A B → I i B) (hIx : ∀ A B, Ix A → TurnFrom w.heap.size A B → Ix B) (h0 : I 0 w) (a₁ : α → Act)
    (hassign : ∀ (l : Nat) (x : α) (W : World) (K : Act → World → Prop), K (a₁ x) W →
      assign.wpIn (Fence.wide.inRound l) 5 P (Exit.then K (fun _ _ _ => False)) { tmps := (ps.zip (encs x)).foldl (fun t (p, v) => t.setIfInBounds p v) a.tmps, defers := [] } W)
    (hbody : ∀ (l i : Nat) (x : α) (W : World), xs[i]? = some x → I i W → body.wpIn (Fence.wide.inRound l) 5 P (turnPost T w.heap.size B0 I Ix i W) (a₁ x) W)
    (hdone : ∀ (D : Nat) (W : World), w.heap.size ≤ D → I xs.length W → W.heap[D]? = some (.deferred (some [])) → Q .normal { a with defers := { target := .collected D, args := #[] } :: a.defers } W)
    (hstop : ∀ (D : Nat) (W : World), w.heap.size ≤ D → Ix W → W.heap[D]? = some (.deferred (some [])) → Code.ret.wpIn Fence.wide n P Q { a with defers := { target := .collected D, args := #[] } :: a.defers } W) :
    (Code.rangeFunc g ps assign body).wpIn Fence.wide n P Q a w := by
  refine wpIn_rangeFunc fun fn _ => ?_
  let r0 : Loop := { state := .ready, pending := none, fn := fn, tmps := a.tmps, params := ps, assign := assign, body := body, defers := w.heap.size }
  let W1 : World := (w.alloc (.deferred (some []))).alloc (.loop r0)
  have hsz : W1.heap.size = w.heap.size + 1 + 1 := by simp [W1]
  have hL : W1.heap[w.heap.size + 1]? = some (.loop r0) := by
    have := World.alloc_heap_new (w.alloc (.deferred (some []))) (.loop r0); rwa [World.size_alloc] at this
  have hD : W1.heap[w.heap.size]? = some (.deferred (some [])) := (Below.heap_alloc _ _ _ (by simp)).trans (World.alloc_heap_new w _)
  have hT : TurnFrom w.heap.size w W1 := (TurnFrom.alloc _ w _).trans (TurnFrom.alloc _ _ _)
  refine ⟨w.heap.size + 1, [{ target := .collected w.heap.size, args := #[] }], W1, { target := .fn (.func gf) lb, args := #[.func (.yield (w.heap.size + 1)) #[] #[]] }, W1, gf, #[.func (.yield (w.heap.size + 1)) #[] #[]] ++ lb, W1, run_enterLoop_outer _ _ _ _ _, ?_, fun _ _ => trivial, ?_, ?_, ?_⟩
  · simp only [resolve, hg]
    simp [go_sem]
  · simp [invoke, go_sem, eg]
  · intro h; simp [Fence.wide] at h
  refine (hit r0 (w.heap.size + 1)
    (fun i W => I i W ∧ W.heap[w.heap.size + 1]? = some (.loop r0) ∧ W.heap[w.heap.size]? = some (.deferred (some [])))
    (fun W => Ix W ∧ W.heap[w.heap.size + 1]? = some (.loop { r0 with state := .done, pending := some .ret }) ∧ W.heap[w.heap.size]? = some (.deferred (some [])))
    (fun i A B ⟨q1, q2, q3⟩ ht => ⟨hI i A B q1 (ht.lower (by show _ ≤ W1.heap.size; omega)), ht.same _ _ q2 (.inl (by show _ < W1.heap.size; omega)), ht.same _ _ q3 (.inl (by show _ < W1.heap.size; omega))⟩)
    (fun A B ⟨q1, q2, q3⟩ ht => ⟨hIx A B q1 (ht.lower (by show _ ≤ W1.heap.size; omega)), ht.same _ _ q2 (.inl (by show _ < W1.heap.size; omega)), ht.same _ _ q3 (.inl (by show _ < W1.heap.size; omega))⟩)
    ?_ ⟨hI 0 w W1 h0 hT, hL, hD⟩ (n - 1)).mono ?_
  · -- a round
    rintro i x W hx ⟨q1, q2, q3⟩ m
    refine ⟨fn, _, assign, body, run_yield q2 (hps x), roundIn_depth (n := 5) (roundIn_of_wpIn trivial (hassign _ x W _ ?_))⟩
    have hlt : w.heap.size + 1 < W.heap.size := (Array.getElem?_eq_some_iff.1 q2).1
    refine ⟨_, run_beginRound q2 rfl, ?_⟩
    have hb : (W.putObj (w.heap.size + 1) (.loop { r0 with state := .busy })).heap[w.heap.size + 1]? = some (.loop { r0 with state := .busy }) := World.putObj_heap_same hlt
    have hb2 : (W.putObj (w.heap.size + 1) (.loop { r0 with state := .busy })).heap[w.heap.size]? = some (.deferred (some [])) := (World.putObj_heap_other (by omega)).trans q3
    refine wpIn_mono (hbody _ i x _ hx (hI i W _ q1 (TurnFrom.putObj _ (by omega) q2 rfl))) ?_
    intro e a3 W3 hp
    cases e with
    | normal =>
      obtain ⟨hk, hi⟩ := hp
      have h3 := hk.same _ _ hb (.inr rfl)
      have h4 := hk.same _ _ hb2 (.inr rfl)
      have hlt3 : w.heap.size + 1 < W3.heap.size := (Array.getElem?_eq_some_iff.1 h3).1
      exact ⟨_, _, run_endRound none h3, .inl ⟨rfl, ⟨hI _ W3 _ hi (TurnFrom.putObj _ (by omega) h3 rfl), World.putObj_heap_same hlt3, (World.putObj_heap_other (by omega)).trans h4⟩, KpT.round q2 hk⟩⟩
    | ret =>
      obtain ⟨hk, hi⟩ := hp
      have h3 := hk.same _ _ hb (.inr rfl) (by omega)
      have h4 := hk.same _ _ hb2 (.inr rfl) (by omega)
      have hlt3 : w.heap.size + 1 < W3.heap.size := (Array.getElem?_eq_some_iff.1 h3).1
      refine ⟨_, _, run_endRound (some .ret) h3, .inr ⟨rfl, ⟨hIx W3 _ hi (TurnFrom.putObj _ (by omega) h3 rfl), World.putObj_heap_same hlt3, (World.putObj_heap_other (by omega)).trans h4⟩, ?_, fun k o hk1 ho hl => ?_⟩⟩
      · have := hk.size; simp at this ⊢; omega
      · have hl' : w.heap.size + 1 + 1 ≤ k := by have : W1.heap.size ≤ k := hl; omega
        exact (World.putObj_heap_other (by omega)).trans (hk.same k o ((World.putObj_heap_other (by omega)).trans hk1) ho (by omega))
    | exit id => exact hp.elim
    | goto t => exact hp.elim
    | panic c => exact hp.elim
    | outgrown => exact hp.elim
  · -- behind the iterator
    rintro e W ⟨⟨v, rfl⟩, ⟨q1, q2, q3⟩ | ⟨q1, q2, q3⟩⟩
    · exact ⟨none, _, run_endLoop q2 (by simp [r0]), hdone _ _ (Nat.le_refl _) (hI _ W _ q1 (TurnFrom.putObj _ (by omega) q2 rfl)) ((World.putObj_heap_other (by omega)).trans q3)⟩
    · exact ⟨some .ret, _, run_endLoop q2 (by simp), hstop _ _ (Nat.le_refl _) (hIx W _ q1 (TurnFrom.putObj _ (by omega) q2 rfl)) ((World.putObj_heap_other (by omega)).trans q3)⟩
end Go.Proofs.YtfinjenkgpndlaaGreatDoor.PA

namespace Go.Proofs.YtfinjenkgpndlaaGreatDoor.PA
open Go.RowKit Go.Shelf Go.Proofs.YtfinjenkgpndlaaGreatDoorW.PrintWords Go.Proofs.YtfinjenkgpndlaaGreatDoorW.PrintLast Go.Proofs.YtfinjenkgpndlaaGreatDoorW.PrintMore
set_option linter.unusedVariables false
set_option linter.unusedSimpArgs false

theorem fresh_R {α : Type} {d : Kd α} {W : World} {base e : Nat} {okp : Nat → Prop} {xs : List α} {inner : List Value} (hrep : Reps (d.M W base okp) d.sz xs inner) (hbase : base ≤ W.heap.size) (hm : xs.length ≤ 9223372036854775807) :
    d.R e (W.alloc (.cells inner.toArray e)) base (fun _ => True) (.slice (some ⟨W.heap.size, 0, none⟩) xs.length xs.length) xs := by
  refine ⟨fun _ _ => trivial, inner, ?_, ?_⟩
  · have h2 := World.ownsRow_lit (base := base) (e := e) (size := d.sz) W inner.toArray xs.length hbase (by simpa [maxLen] using hm) (by simpa using hrep.1)
    simpa using h2
  · refine hrep.imp_ (fun p c hp => d.M_mono (fun k hk => ⟨trivial, fun he => ?_⟩) (Kd.M_below (d.M_bound hp) (below_alloc (Below.refl _ _) _)))
    have h3 : k = W.heap.size := by simpa [Value.ownBlock] using he
    have := hk.2.2.1
    omega
theorem fresh_RP {α : Type} {d : Kd α} {W : World} {base e : Nat} {okp : Nat → Prop} {xs : List α} {inner : List Value} (hrep : Reps (d.M W base okp) d.sz xs inner) (hbase : base ≤ W.heap.size) (hm : xs.length ≤ 9223372036854775807) :
    d.R e (W.alloc (.cells inner.toArray e)) base (fun k => okp k ∨ k = W.heap.size) (.slice (some ⟨W.heap.size, 0, none⟩) xs.length xs.length) xs := by
  refine ⟨fun k hk => .inr (by simpa [Value.ownBlock] using hk.symm), inner, ?_, ?_⟩
  · have h2 := World.ownsRow_lit (base := base) (e := e) (size := d.sz) W inner.toArray xs.length hbase (by simpa [maxLen] using hm) (by simpa using hrep.1)
    simpa using h2
  · refine hrep.imp_ (fun p c hp => d.M_mono (fun k hk => ⟨.inl hk.1, fun he => ?_⟩) (Kd.M_below (d.M_bound hp) (below_alloc (Below.refl _ _) _)))
    have h3 : k = W.heap.size := by simpa [Value.ownBlock] using he
    have := hk.2.2.1
    omega
structure NdP (W : World) (base : Nat) (P : Nat → Prop) (v : Value) (x : Nd) : Prop where
  at_ : ∃ v2 v4, v = .agg #[.int .i64 x.f0, .int .i64 x.f1, v2, .string x.f3, v4] ∧ Kd.R k58 58 W base P v2 x.f2 ∧ Kd.R k26 26 W base (fun k_ => P k_ ∧ some k_ ≠ (v2 : Value).ownBlock) v4 x.f4
abbrev NdV (W : World) (base : Nat) (v : Value) (x : Nd) : Prop := NdP W base (fun _ => True) v x
section
variable {W W1 : World} {base b : Nat} {P Q : Nat → Prop} {v : Value} {x y : Nd}
theorem NdP.mono (h : NdP W base P v x) (hP : ∀ k, P k → Q k) : NdP W base Q v x := by
  obtain ⟨v2, v4, rfl, h1, h2⟩ := h.at_
  exact ⟨v2, v4, rfl, Kd.R_mono h1 hP, Kd.R_mono h2 fun k hk => ⟨hP k hk.1, hk.2⟩⟩
theorem NdP.bound (h : NdP W base P v x) : NdP W base (fun k => P k ∧ base ≤ k ∧ k < W.heap.size) v x := by
  obtain ⟨v2, v4, rfl, h1, h2⟩ := h.at_
  exact ⟨v2, v4, rfl, Kd.R_mono (Kd.R_bound h1) fun k hk => ⟨hk.1, hk.2.1, hk.2.2.1⟩, Kd.R_mono (Kd.R_bound h2) fun k hk => ⟨⟨hk.1.1, hk.2.1, hk.2.2.1⟩, hk.1.2⟩⟩
theorem NdP.cells (h : NdP W base P v x) : ∃ cs : List Value, v = .agg cs.toArray ∧ cs.length = 5 ∧ k26.M W base P x cs := by
  obtain ⟨v2, v4, rfl, h1, h2⟩ := h.at_
  exact ⟨[.int .i64 x.f0, .int .i64 x.f1, v2, .string x.f3, v4], rfl, rfl, k26_mkM W base _ x h1 (Kd.R_mono h2 (fun _ h => h.1))⟩
theorem NdP.step (h : NdP W base P v x) (hm : ∀ k, P k → k < W.heap.size → W1.heap[k]? = W.heap[k]?) : NdP W1 base P v x := by
  obtain ⟨v2, v4, rfl, h1, h2⟩ := h.at_
  exact ⟨v2, v4, rfl, Kd.R_step h1 hm, Kd.R_step h2 fun k hk hl => hm k hk.1 hl⟩
theorem NdP.below (h : NdP W base P v x) (hb : Below W.heap.size W W1) : NdP W1 base P v x := h.step fun k _ hk => hb.block k hk
theorem NdP.lower (h : NdP W base P v x) (hb : b ≤ base) : NdP W b P v x := by
  obtain ⟨v2, v4, rfl, h1, h2⟩ := h.at_
  exact ⟨v2, v4, rfl, Kd.R_lower h1 hb, Kd.R_lower h2 hb⟩
theorem NdP.grown (h : NdP W base P v x) {g : Nat} (hg : W.grownBy W1 (some g)) (hP : ∀ k, P k → k ≠ g) : NdP W1 base P v x := h.step fun k hk hl => hg.block k hl fun e => hP k hk (by cases e; rfl)
theorem NdP.zero (W : World) (base : Nat) (P : Nat → Prop) : NdP W base P (.agg #[.int .i64 0, .int .i64 0, .slice none 0 0, .string ⟨#[]⟩, .slice none 0 0]) zNd := ⟨_, _, rfl, Kd.R_nil _ _ _ _ _, Kd.R_nil _ _ _ _ _⟩
theorem NdP.bare (W : World) (base : Nat) (P : Nat → Prop) (k a : Int) (s : ByteArray) : NdP W base P (.agg #[.int .i64 k, .int .i64 a, .slice none 0 0, .string s, .slice none 0 0]) ⟨k, a, [], s, []⟩ := ⟨_, _, rfl, Kd.R_nil _ _ _ _ _, Kd.R_nil _ _ _ _ _⟩
theorem NdP.slices {a b s v2 v4 : Value} (h : NdP W base P (.agg #[a, b, v2, s, v4]) x) : ∃ A2 c2 A4 c4, v2 = .slice A2 x.f2.length c2 ∧ v4 = .slice A4 x.f4.length c4 := by
  obtain ⟨u2, u4, e, h1, h2⟩ := h.at_
  simp only [Value.agg.injEq, Array.mk.injEq, List.cons.injEq, and_true] at e
  obtain ⟨_, _, rfl, _, rfl⟩ := e
  obtain ⟨A2, c2, rfl⟩ := Kd.R_slice h1
  obtain ⟨A4, c4, rfl⟩ := Kd.R_slice h2
  exact ⟨A2, c2, A4, c4, rfl, rfl⟩
theorem NdP.one (h : NdP W base P v x) (hb : base ≤ W.heap.size) (k : Int) : ∃ cs : List Value, v = .agg cs.toArray ∧ cs.length = 5 ∧ NdP (W.alloc (.cells cs.toArray 26)) base (fun j => P j ∨ j = W.heap.size) (.agg #[.int .i64 k, .int .i64 x.f1, .slice none 0 0, .string ⟨#[]⟩, .slice (some ⟨W.heap.size, 0, none⟩) 1 1]) (oneN k x) := by
  obtain ⟨cs, e, hl, hM⟩ := h.cells
  exact ⟨cs, e, hl, _, _, rfl, Kd.R_nil _ _ _ _ _, Kd.R_mono (fresh_RP (xs := [x]) (inner := cs) (by simpa using Reps.snoc (Reps.none (Kd.M k26 W base P) (Kd.sz k26)) hM (Kd.K_len _ (Kd.K_of_M _ hM))) hb (by simp)) (fun j hj => ⟨hj, fun e => by cases e⟩)⟩
theorem NdP.two {u : Value} (h : NdP W base P v x) (h' : NdP W base P u y) (hb : base ≤ W.heap.size) (k : Int) : ∃ cs ds : List Value, v = .agg cs.toArray ∧ u = .agg ds.toArray ∧ cs.length = 5 ∧ ds.length = 5 ∧ NdP (W.alloc (.cells (cs ++ ds).toArray 26)) base (fun j => P j ∨ j = W.heap.size) (.agg #[.int .i64 k, .int .i64 x.f1, .slice none 0 0, .string ⟨#[]⟩, .slice (some ⟨W.heap.size, 0, none⟩) 2 2]) (twoN k x y) := by
  obtain ⟨cs, e, hl, hM⟩ := h.cells
  obtain ⟨ds, e', hl', hM'⟩ := h'.cells
  exact ⟨cs, ds, e, e', hl, hl', _, _, rfl, Kd.R_nil _ _ _ _ _, Kd.R_mono (fresh_RP (xs := [x, y]) (inner := cs ++ ds) (by simpa using Reps.snoc (Reps.snoc (Reps.none (Kd.M k26 W base P) (Kd.sz k26)) hM (Kd.K_len _ (Kd.K_of_M _ hM))) hM' (Kd.K_len _ (Kd.K_of_M _ hM'))) hb (by simp)) (fun j hj => ⟨hj, fun e => by cases e⟩)⟩
theorem NdP.range (W : World) (base : Nat) (hb : base ≤ W.heap.size) (at_ lo hi : Int) : NdP (W.alloc (.cells #[.int .i32 lo, .int .i32 hi] 58)) base (fun j => j = W.heap.size) (.agg #[.int .i64 1, .int .i64 at_, .slice (some ⟨W.heap.size, 0, none⟩) 1 1, .string ⟨#[]⟩, .slice none 0 0]) ⟨1, at_, [⟨lo, hi⟩], ⟨#[]⟩, []⟩ :=
  ⟨_, _, rfl, Kd.R_mono (fresh_RP (d := k58) (okp := fun _ => False) (xs := [⟨lo, hi⟩]) (inner := [.int .i32 lo, .int .i32 hi]) (by simpa using Reps.snoc (Reps.none (Kd.M k58 W base (fun _ => False)) (Kd.sz k58)) (k58_mkM W base _ ⟨lo, hi⟩) rfl) hb (by simp)) (fun j hj => hj.elim False.elim id), Kd.R_nil _ _ _ _ _⟩
end
theorem five_put {w : World} {b : Nat} {c0 c1 c2 c3 c4 : Value} {T : TypeId} (h : w.heap[b]? = some (.cells #[c0, c1, c2, c3, c4] T (0, 0))) (a0 a1 a2 a3 a4 : Value) : (((((w.setCell ⟨b, 0, none⟩ a0).setCell ⟨b, 1, none⟩ a1).setCell ⟨b, 2, none⟩ a2).setCell ⟨b, 3, none⟩ a3).setCell ⟨b, 4, none⟩ a4).heap[b]? = some (.cells #[a0, a1, a2, a3, a4] T (0, 0)) := heap_set (heap_set (heap_set (heap_set (heap_set h 0 a0) 1 a1) 2 a2) 3 a3) 4 a4
theorem five_grown (w : World) (b : Nat) (a0 a1 a2 a3 a4 : Value) : w.grownBy (((((w.setCell ⟨b, 0, none⟩ a0).setCell ⟨b, 1, none⟩ a1).setCell ⟨b, 2, none⟩ a2).setCell ⟨b, 3, none⟩ a3).setCell ⟨b, 4, none⟩ a4) (some b) :=
  have s : ∀ (w : World) (j : Nat) (u : Value), w.grownBy (w.setCell ⟨b, j, none⟩ u) (some b) := fun w j u => ⟨rfl, rfl, rfl, by simp, fun k hk hne => Below.heap_setCell w ⟨b, j, none⟩ u k (fun e => hne (by rw [e]))⟩
  ((((s _ 0 a0).trans (s _ 1 a1)).trans (s _ 2 a2)).trans (s _ 3 a3)).trans (s _ 4 a4)
theorem new_grown {W w w1 : World} {n b : Nat} (h : Below n W w) (hg : w.grownBy w1 (some b)) (hn : n ≤ w.heap.size) (hb : n ≤ b) : Below n W w1 := h.grown hg hn fun k hk => by cases hk; exact hb
end Go.Proofs.YtfinjenkgpndlaaGreatDoor.PA

namespace Go.Proofs.YtfinjenkgpndlaaGreatDoor.PA
open Go.RowKit Go.Shelf Go.Proofs.YtfinjenkgpndlaaGreatDoorW.PrintWords Go.Proofs.YtfinjenkgpndlaaGreatDoorW.PrintLast Go.Proofs.YtfinjenkgpndlaaGreatDoorW.PrintMore
set_option linter.unusedVariables false
set_option linter.unusedSimpArgs false

structure RdAt (W0 W : World) (g : Nat) (A : Option Addr) (c : Nat) (l : List Tok) (st : Rd) : Prop where
  obj : W.heap[g]? = some (.cells #[.slice A l.length c, .int .i64 st.i, .int .i64 st.op, .int .i64 st.e, .int .i64 st.at_] 105 (0, 0))
  below : Below W0.heap.size W0 W
  ge : W0.heap.size ≤ g
  row : Kd.C k77 W0 A l.length l
  cap : l.length ≤ c
  op0 : 0 ≤ st.op
section
variable {W0 W W1 : World} {g c : Nat} {A : Option Addr} {l : List Tok} {st : Rd}
theorem RdAt.later (h : RdAt W0 W g A c l st) (hb : Below W.heap.size W W1) : RdAt W0 W1 g A c l st := ⟨(hb.block _ (blk_lt h.obj)).trans h.obj, h.below.trans (hb.mono h.below.size), h.ge, h.row, h.cap, h.op0⟩
theorem RdAt.sure (h : RdAt W0 W g A c l st) (ho : W1.heap[g]? = W.heap[g]?) (hb : Below W0.heap.size W0 W1) : RdAt W0 W1 g A c l st := ⟨ho.trans h.obj, hb, h.ge, h.row, h.cap, h.op0⟩
theorem RdAt.c0 (h : RdAt W0 W g A c l st) : W.cell? ⟨g, 0, none⟩ = some (.slice A l.length c) := (blk_cell h.obj 0).trans rfl
theorem RdAt.c1 (h : RdAt W0 W g A c l st) : W.cell? ⟨g, 1, none⟩ = some (.int .i64 st.i) := (blk_cell h.obj 1).trans rfl
theorem RdAt.c2 (h : RdAt W0 W g A c l st) : W.cell? ⟨g, 2, none⟩ = some (.int .i64 st.op) := (blk_cell h.obj 2).trans rfl
theorem RdAt.c3 (h : RdAt W0 W g A c l st) : W.cell? ⟨g, 3, none⟩ = some (.int .i64 st.e) := (blk_cell h.obj 3).trans rfl
theorem RdAt.c4 (h : RdAt W0 W g A c l st) : W.cell? ⟨g, 4, none⟩ = some (.int .i64 st.at_) := (blk_cell h.obj 4).trans rfl
theorem RdAt.fz (h : RdAt W0 W g A c l st) (j : Nat) : W.frozen? ⟨g, j, none⟩ = false := blk_frozen h.obj j
theorem RdAt.lt (h : RdAt W0 W g A c l st) : g < W.heap.size := blk_lt h.obj
theorem RdAt.row' (h : RdAt W0 W g A c l st) : Kd.C k77 W A l.length l := Kd.C_below h.row h.below
theorem RdAt.set (h : RdAt W0 W g A c l st) {j : Nat} {u : Value} {st' : Rd} (e : (#[Value.slice A l.length c, .int .i64 st.i, .int .i64 st.op, .int .i64 st.e, .int .i64 st.at_] : Array Value).setIfInBounds j u = #[.slice A l.length c, .int .i64 st'.i, .int .i64 st'.op, .int .i64 st'.e, .int .i64 st'.at_]) (hop : 0 ≤ st'.op) : RdAt W0 (W.setCell ⟨g, j, none⟩ u) g A c l st' :=
  ⟨by rw [← e]; exact heap_set h.obj j u, h.below.setCell (p := ⟨g, j, none⟩) h.ge u, h.ge, h.row, h.cap, hop⟩
theorem RdAt.i (h : RdAt W0 W g A c l st) (n : Int) : RdAt W0 (W.setCell ⟨g, 1, none⟩ (.int .i64 n)) g A c l { st with i := n } := h.set rfl h.op0
theorem RdAt.op (h : RdAt W0 W g A c l st) (n : Int) (hn : 0 ≤ n) : RdAt W0 (W.setCell ⟨g, 2, none⟩ (.int .i64 n)) g A c l { st with op := n } := h.set rfl hn
theorem RdAt.e (h : RdAt W0 W g A c l st) (n : Int) : RdAt W0 (W.setCell ⟨g, 3, none⟩ (.int .i64 n)) g A c l { st with e := n } := h.set rfl h.op0
theorem RdAt.at1 (h : RdAt W0 W g A c l st) (n : Int) : RdAt W0 (W.setCell ⟨g, 4, none⟩ (.int .i64 n)) g A c l { st with at_ := n } := h.set rfl h.op0
end
theorem grown_set (W : World) (g j : Nat) (u : Value) : W.grownBy (W.setCell ⟨g, j, none⟩ u) (some g) := ⟨rfl, rfl, rfl, by simp, fun k hk hne => Below.heap_setCell W ⟨g, j, none⟩ u k (fun e => hne (by rw [e]))⟩
theorem grown_of_below {W W1 : World} (h : Below W.heap.size W W1) (row : Option Nat) : W.grownBy W1 row := ⟨h.os, h.tape, h.output, h.size, fun k hk _ => h.block k hk⟩
def tokV (t : Tok) : Value := .agg #[.int .i64 t.f0, .int .i64 t.f1, .string t.f2, .int .i32 t.f3]
end Go.Proofs.YtfinjenkgpndlaaGreatDoor.PA

namespace Go.Proofs.YtfinjenkgpndlaaGreatDoor.PA
open Go.RowKit Go.Shelf Go.Proofs.YtfinjenkgpndlaaGreatDoorW.PrintWords Go.Proofs.YtfinjenkgpndlaaGreatDoorW.PrintLast Go.Proofs.YtfinjenkgpndlaaGreatDoorW.PrintMore
attribute [local go_sem] Oper.semAt_some
set_option linter.unusedVariables false
set_option linter.unusedSimpArgs false

theorem extract_drop (s : ByteArray) (p : Nat) : (s.extract p s.size).data.toList = s.data.toList.drop p := by
  have h : s.data.toList.length = s.size := by rw [Array.length_toList]; rfl
  have e : (s.extract p s.size).data = s.data.extract p s.size := by simp
  rw [e, Array.toList_extract]
  show ((s.data.toList.drop p).take (s.size - p)) = _
  exact List.take_of_length_le (by rw [List.length_drop, h]; exact Nat.le_refl _)
theorem extract_len (s : ByteArray) (p : Nat) : (s.extract p s.size).size ≤ s.size := by
  have h := congrArg List.length (extract_drop s p)
  rw [Array.length_toList, List.length_drop, Array.length_toList] at h
  show (s.extract p s.size).data.size ≤ s.data.size
  omega
set_option maxRecDepth 100000 in
set_option maxHeartbeats 4000000 in
theorem tokens1_iter (T : List Nat) (hT : T.contains 9 = false) (B Bx : Nat) (s : ByteArray) (hs : s.size ≤ 9223372036854775807) (xs : List Tok) (hx : scanL s.data.toList 0 = some xs) (W : World) (hS : W.heap[Bx]? = some (.cells #[.string s] 9 (0, 0))) :
    Iter T Tryz.prog B 85 #[.pointer (some ⟨Bx, 0, none⟩)] (fun t : Tok => #[tokV t, .bool true]) xs W := by
  intro l J Jx hJ hJx hY h0 n
  have hsz : s.data.toList.length = s.size := by rw [Array.length_toList]; rfl
  have hu3 := Tryz.underlying77
  have hc0 := (blk_cell hS 0).trans rfl
  have hle := blankN_le s.data.toList
  have hnb := blankN_not s.data.toList
  have hB := Lib.hid (fun W' => callsIn_wide (n := 5 - 1) |>.2 (blank_calls s hs (fun c hc => scan_hash hx c hc) W'))
  rw [scan_blank, Nat.zero_add] at hx
  generalize blankN s.data.toList = m at *
  refine callsIn_depth (n := 5) ?_
  refine callsIn_of_wp Tryz.func85 rfl trivial ?_ rfl
  simp only [Tryz.ntmps85, List.size_toArray, List.length_cons, List.length_nil, Nat.reduceAdd, Nat.reduceSub, Array.replicate_succ, Array.replicate_zero, List.push_toArray, List.append_toArray, List.nil_append, List.cons_append]
  have HS := Lib.hid hS
  have HY := Lib.hid hY
  have HJ0 := Lib.hid h0
  have HX := Lib.hid hx
  have HNB := Lib.hid hnb
  have HTR := Lib.hid hJ
  clear hS hY h0 hx hnb hJ
  gi_wp2_with (refine ⟨trivial, ?_⟩; gi_at_call 86; refine (hB.out _).mono ?_; rintro e w2 ⟨rfl, hb2⟩; have HB2 := Lib.hid hb2; clear hb2)
  gi_loopw [3] (fun i wr => ∃ (p k : Nat) (r : List Tok), i = .int .i64 p ∧ p ≤ s.size ∧ k ≤ xs.length ∧ Hid (scanL (s.data.toList.drop p) p = some r) ∧ Hid (xs.drop k = r) ∧ Hid (∀ c, s.data.toList[p]? = some c → isBl c = false) ∧ Hid (J k wr) ∧ Hid (wr.heap[Bx]? = some (.cells #[.string s] 9 (0, 0)))) (fun i _ => ((s.size : Int) - intOf i).toNat)
  case atStart =>
    exact ⟨m, 0, xs, rfl, by omega, Nat.zero_le _, HX, Lib.hid rfl, HNB, Lib.hid (HTR.out _ _ _ HJ0.out (TurnFrom.of_below HB2.out)), Lib.hid ((HB2.out.block _ (blk_lt HS.out)).trans HS.out)⟩
  case round =>
    clear HS HJ0 HX HNB HB2 hc0
    obtain ⟨p, k, r, rfl, hp, hk, hr, hd, hnb, hJs, hSs⟩ := hrel
    have hcb := (blk_cell hSs.out 0).trans rfl
    by_cases hlt : p < s.size
    · have hne : s.data.toList.drop p ≠ [] := by
        intro e
        have := congrArg List.length e
        rw [List.length_drop, hsz, List.length_nil] at this
        omega
      obtain ⟨t, q, r', h1, hre, hq, hql, hsc⟩ := scan_step hr.out (fun c h => hnb.out c (by rw [List.getElem?_drop] at h; simpa using h)) hne
      have hql' : p + q ≤ s.size := by rw [List.length_drop, hsz] at hql; omega
      have hdd := hd.out
      rw [hre] at hdd
      have hx1 : xs[k]? = some { t with f1 := (p : Int) } := by
        have := congrArg (fun l : List Tok => l[0]?) hdd
        simpa [List.getElem?_drop] using this
      have hd1 : xs.drop (k + 1) = r' := by
        have := congrArg List.tail hdd
        simpa using this
      have hk1 : k + 1 ≤ xs.length := (List.getElem?_eq_some_iff.1 hx1).1
      have H1 := Lib.hid (fun W' => callsIn_wide (n := 5 - 1) |>.2 (lex_one.calls 1 (s.extract p s.size) t.f0 t.f1 t.f2 t.f3 q W' (one_eq (by rw [extract_drop]; exact h1))))
      rw [List.drop_drop] at hsc
      have hscX : scanL (s.extract (p + q) s.size).data.toList (p + q) = some r' := by rw [extract_drop]; exact hsc
      have HB3 := Lib.hid (fun W' => callsIn_wide (n := 5 - 1) |>.2 (blank_calls (s.extract (p + q) s.size) (Nat.le_trans (extract_len s (p + q)) hs) (fun c hc => scan_hash hscX c hc) W'))
      rw [extract_drop] at HB3
      have hm' := blankN_le (s.data.toList.drop (p + q))
      rw [List.length_drop, hsz] at hm'
      have hnb2 := blankN_not (s.data.toList.drop (p + q))
      rw [scan_blank, List.drop_drop] at hsc
      generalize blankN (s.data.toList.drop (p + q)) = m' at *
      have HX2 := Lib.hid hx1
      have HD2 := Lib.hid hd1
      have HSC := Lib.hid hsc
      have HN2 := Lib.hid (fun c (h : s.data.toList[p + q + m']? = some c) => hnb2 c (by rw [List.getElem?_drop]; exact h))
      have b0 : (p : Int) ≤ (s.size : Int) := by omega
      have b1 : (0 : Int) ≤ (p : Int) + (q : Int) := by omega
      have b2 : (p : Int) + (q : Int) ≤ (s.size : Int) := by omega
      have b3 : ((p : Int) + (q : Int)).toNat = p + q := by omega
      have b4 : IntKind.i64.wrap ((p : Int) + (q : Int)) = (p : Int) + (q : Int) := IntWalk.i64_in _ (by omega)
      have b5 : IntKind.i64.wrap ((p : Int) + (q : Int) + (m' : Int)) = (p : Int) + (q : Int) + (m' : Int) := IntWalk.i64_in _ (by omega)
      have b6 : decide ((q : Int) > 0) = true := decide_eq_true (by omega)
      have b7 : decide ((0 : Int) < (q : Int)) = true := decide_eq_true (by omega)
      have b8 : ((q : Int) == 0) = false := beq_eq_false_iff_ne.2 (by omega)
      clear hre hdd hx1 hd1 hsc hscX hnb2 h1 hr hd hnb hne
      gi_wp2_with fail
      refine ⟨trivial, ?_⟩
      gi_at_call 87
      refine (H1.out _).mono ?_
      rintro e w3 ⟨rfl, hb3⟩
      obtain ⟨w4, hw4⟩ : ∃ w4, w3.alloc (.cells #[.int .i64 t.f0, .int .i64 t.f1, .string t.f2, .int .i32 t.f3] 77) = w4 := ⟨_, rfl⟩
      have ho4 : w4.heap[w3.heap.size]? = some (.cells #[.int .i64 t.f0, .int .i64 t.f1, .string t.f2, .int .i32 t.f3] 77 (0, 0)) := by rw [← hw4]; exact heap_alloc_new w3 _
      have hb4 : Below wr.heap.size wr w4 := by rw [← hw4]; exact hb3.alloc hb3.size _
      have hb5 : Below wr.heap.size wr (w4.setCell ⟨w3.heap.size, 1, none⟩ (.int .i64 p)) := hb4.setCell (p := ⟨w3.heap.size, 1, none⟩) hb3.size _
      have hcb4 : (w4.setCell ⟨w3.heap.size, 1, none⟩ (.int .i64 p)).heap[Bx]? = some (.cells #[.string s] 9 (0, 0)) := (hb5.block _ (blk_lt hSs.out)).trans hSs.out
      have t0 := (blk_cell ho4 0).trans rfl
      have t1 := (blk_cell ho4 1).trans rfl
      have t2 := (blk_cell ho4 2).trans rfl
      have t3 := (blk_cell ho4 3).trans rfl
      have f1 := blk_frozen ho4 1
      have hy := HY.out k _ (w4.setCell ⟨w3.heap.size, 1, none⟩ (.int .i64 p)) HX2.out (HTR.out _ _ _ hJs.out (TurnFrom.of_below hb5)) (5 - 1)
      simp only [tokV] at hy
      obtain ⟨fn, tmps, assign, body, hy, hR⟩ := hy
      have HR := Lib.hid hR
      have HC4 := Lib.hid hcb4
      clear hb3 hb4 hb5 hcb4 ho4 hR H1
      gi_wp2
      refine (roundIn_depth HR.out).mono ?_
      rintro e W3 (⟨rfl, hJ3, hk3⟩ | ⟨rfl, hJx3, _⟩)
      · have HC3 := Lib.hid (hk3.same _ _ HC4.out (.inr hT))
        have HJ3 := Lib.hid hJ3
        have hcb3 := (blk_cell HC3.out 0).trans rfl
        clear hJ3 hk3 HC4 HR hy t0 t1 t2 t3 f1 hcb hw4
        gi_wp2_with fail
        refine ⟨trivial, ?_⟩
        gi_at_call 86
        refine (HB3.out _).mono ?_
        rintro e W5 ⟨rfl, hb5⟩
        have HJ5 := Lib.hid (HTR.out _ _ _ HJ3.out (TurnFrom.of_below hb5))
        have HC5 := Lib.hid ((hb5.block _ (blk_lt HC3.out)).trans HC3.out)
        clear hb5
        gi_wp2
        go_roundw
        case rel => exact ⟨p + q + m', k + 1, r', by simp [Nat.add_assoc, Int.add_assoc], by omega, hk1, HSC, HD2, HN2, HJ5, HC5⟩
        case measure => simp [intOf]; omega
      · have HJ3 := Lib.hid hJx3
        clear hJx3 HC4 HR hy t0 t1 t2 t3 f1 hcb hw4
        gi_wp2
        refine bodyPost_ret (results_none rfl _ _ _) rfl ?_
        exact ⟨⟨_, rfl⟩, .inr HJ3.out⟩
    · obtain rfl : p = s.size := by omega
      have hr0 := hr.out
      rw [List.drop_eq_nil_of_le (by omega)] at hr0
      obtain rfl : [] = r := by simpa [scanL] using hr0
      have hk' := Lib.hid (show k = xs.length by have := List.drop_eq_nil_iff.1 hd.out; omega)
      clear hr0 hr
      gi_wp2
      go_end0
      exact ⟨⟨_, rfl⟩, .inl (hk'.out ▸ hJs.out)⟩
end Go.Proofs.YtfinjenkgpndlaaGreatDoor.PA

namespace Go.Proofs.YtfinjenkgpndlaaGreatDoor.PA
open Go.RowKit Go.Shelf Go.Proofs.YtfinjenkgpndlaaGreatDoorW.PrintWords Go.Proofs.YtfinjenkgpndlaaGreatDoorW.PrintLast Go.Proofs.YtfinjenkgpndlaaGreatDoorW.PrintMore
set_option linter.unusedVariables false
set_option linter.unusedSimpArgs false

theorem TurnFrom.R {α : Type} {d : Kd α} {B e base : Nat} {ok : Nat → Prop} {W W' : World} {v : Value} {xs : List α} (h : TurnFrom B W W') (hr : d.R e W base ok v xs) : d.R e W' base ok v xs :=
  Kd.R_mono (Kd.R_move (Kd.R_bound hr) (fun k hk => by obtain ⟨_, _, _, q, _, c, hc⟩ := hk; exact (h.same _ _ hc (.inr rfl)).trans hc.symm)) (fun _ hk => hk.1)
structure Sc (W0 W : World) (l : List Tok) : Prop where
  r2 : W.heap[W0.heap.size]? = some (.cells #[.slice none 0 0] 72 (0, 0))
  r3 : W.heap[W0.heap.size + 1]? = some (.cells #[.int .i64 0] 3 (0, 0))
  r4 : W.heap[W0.heap.size + 2]? = some (.cells #[.int .i64 0] 27 (0, 0))
  acc : ∃ v, W.heap[W0.heap.size + 3]? = some (.cells #[v] 72 (0, 0)) ∧ Kd.R k77 77 W (W0.heap.size + 4) (fun _ => True) v l
  below : Below W0.heap.size W0 W
  size : W0.heap.size + 4 ≤ W.heap.size
section
variable {W0 W W1 : World} {l : List Tok} {B : Nat}
theorem Sc.turn (h : Sc W0 W l) (ht : TurnFrom B W W1) (hB : W0.heap.size ≤ B) : Sc W0 W1 l := by
  obtain ⟨v, h1, h2⟩ := h.acc
  exact ⟨ht.same _ _ h.r2 (.inr rfl), ht.same _ _ h.r3 (.inr rfl), ht.same _ _ h.r4 (.inr rfl), ⟨v, ht.same _ _ h1 (.inr rfl), ht.R h2⟩, ht.below h.below hB, Nat.le_trans h.size ht.size⟩
theorem Sc.later (h : Sc W0 W l) (hb : Below W.heap.size W W1) : Sc W0 W1 l := h.turn (B := W0.heap.size) (TurnFrom.of_below hb) (Nat.le_refl _)
theorem Sc.more (h : Sc W0 W l) {v v1 : Value} {t : Tok} (hv : W.heap[W0.heap.size + 3]? = some (.cells #[v] 72 (0, 0))) (hR0 : Kd.R k77 77 W (W0.heap.size + 4) (fun _ => True) v l) (hR : Kd.R k77 77 W1 (W0.heap.size + 4) (fun _ => True) v1 (l ++ [t])) (hg : W.grownBy W1 v.ownBlock) :
    W1.heap[W0.heap.size + 3]? = some (.cells #[v] 72 (0, 0)) ∧ Sc W0 (W1.setCell ⟨W0.heap.size + 3, 0, none⟩ v1) (l ++ [t]) ∧ KpT [72, 77] W0.heap.size W (W1.setCell ⟨W0.heap.size + 3, 0, none⟩ v1) := by
  obtain ⟨inner, hown⟩ := Kd.R_own hR0
  have hnk : ∀ k, k < W0.heap.size + 4 → some k ≠ v.ownBlock := fun k hk e => by have := own_base hown k e.symm; omega
  have hs := h.size
  have q2 := (hg.block _ (by omega) (hnk _ (by omega))).trans h.r2
  have q3 := (hg.block _ (by omega) (hnk _ (by omega))).trans h.r3
  have q4 := (hg.block _ (by omega) (hnk _ (by omega))).trans h.r4
  have qa := (hg.block _ (by omega) (hnk _ (by omega))).trans hv
  have hst : ∀ k, k ≠ W0.heap.size + 3 → (W1.setCell ⟨W0.heap.size + 3, 0, none⟩ v1).heap[k]? = W1.heap[k]? := fun k hk => Below.heap_setCell W1 ⟨W0.heap.size + 3, 0, none⟩ v1 k hk
  have hb1 : Below W0.heap.size W0 W1 := h.below.grown hg h.below.size (fun k hk => by have := own_base hown k hk; omega)
  refine ⟨qa, ⟨(hst _ (by omega)).trans q2, (hst _ (by omega)).trans q3, (hst _ (by omega)).trans q4, ⟨v1, heap_set qa 0 v1, ?_⟩, hb1.setCell (p := ⟨W0.heap.size + 3, 0, none⟩) (by show _ ≤ W0.heap.size + 3; omega) _, by have := hg.size; simp; omega⟩, by have := hg.size; simp; omega, fun k o hk hor => ?_⟩
  · refine Kd.R_mono (Kd.R_move (Kd.R_bound hR) (fun k hk => hst k ?_)) (fun _ hk => hk.1)
    have := hk.2.1
    omega
  · have hkl := blk_lt hk
    have hne : k ≠ W0.heap.size + 3 := by
      rintro rfl
      rcases hor with h1 | h1
      · omega
      · rw [hv] at hk; cases hk; exact Bool.noConfusion (show true = false from h1)
    have hnr : some k ≠ v.ownBlock := by
      intro e
      rcases hor with h1 | h1
      · have := own_base hown k e.symm; omega
      · obtain ⟨c, hc⟩ := own_typed hown k e.symm
        rw [hc] at hk; cases hk; exact Bool.noConfusion (show true = false from h1)
    exact (hst k hne).trans ((hg.block k hkl hnr).trans hk)
end
end Go.Proofs.YtfinjenkgpndlaaGreatDoor.PA

namespace Go.Proofs.YtfinjenkgpndlaaGreatDoor.PA
open Go.RowKit Go.Shelf Go.Proofs.YtfinjenkgpndlaaGreatDoorW.PrintWords Go.Proofs.YtfinjenkgpndlaaGreatDoorW.PrintLast Go.Proofs.YtfinjenkgpndlaaGreatDoorW.PrintMore
attribute [local go_sem] Oper.semAt_some
set_option linter.unusedVariables false
set_option linter.unusedSimpArgs false

def TI : List Nat := [3, 49]
theorem infoInt : (Tryz.prog.info? 3).map (fun i => (i.zero, i.size, i.bytes)) = some (some (.int .i64 0), 1, 8) := by kernel_rfl
theorem TurnFrom.boxed {B b : Nat} {W W' : World} {t : TypeId} {v : Value} (h : TurnFrom B W W') (hb : Boxed W b t v) : Boxed W' b t v := h.same _ _ hb (.inr rfl)
structure Got (W : World) (Bx B0 : Nat) (xs : List Int) (W' : World) : Prop where
  bx : ∃ v, Boxed W' Bx 49 v ∧ Kd.R (Kd.int .i64) 3 W' B0 (fun _ => True) v xs
  below : Below W.heap.size W W'
  le : B0 ≤ W'.heap.size
theorem Got.turn {W A C : World} {Bx B0 B : Nat} {xs : List Int} (h : Got W Bx B0 xs A) (ht : TurnFrom B A C) (hB : W.heap.size ≤ B) : Got W Bx B0 xs C := by
  obtain ⟨v, h1, h2⟩ := h.bx
  exact ⟨⟨v, ht.boxed h1, ht.R h2⟩, ht.below h.below hB, Nat.le_trans h.le ht.size⟩
theorem Got.more {W W1 W2 : World} {Bx B0 : Nat} {xs : List Int} {x : Int} {v v1 : Value} (hle : B0 ≤ W1.heap.size) (hb : Below W.heap.size W W1) (hv : Boxed W1 Bx 49 v) (hR : Kd.R (Kd.int .i64) 3 W1 B0 (fun _ => True) v xs)
    (ho : Kd.R (Kd.int .i64) 3 W2 B0 (fun _ => True) v1 (xs ++ [x])) (hg : W1.grownBy W2 v.ownBlock) (hBx : W.heap.size ≤ Bx) (hlt : Bx < B0) :
    (Boxed W2 Bx 49 v) ∧ Got W Bx B0 (xs ++ [x]) (W2.setCell ⟨Bx, 0, none⟩ v1) ∧ KpT TI W.heap.size W1 (W2.setCell ⟨Bx, 0, none⟩ v1) := by
  obtain ⟨q1, q2, q3, _, q5, q6⟩ := collected (B := B0) (S := fun _ => False) hv hR ho hg (by decide) (fun b hb => hb.elim)
  refine ⟨q1, ⟨⟨v1, q2, q3⟩, hb.trans (q6 _ (by omega) hBx hb.size), Nat.le_trans hle q5.size⟩, q5.size, fun k o hk hor => ?_⟩
  have hkl : k < W1.heap.size := (Array.getElem?_eq_some_iff.1 hk).1
  obtain ⟨_, inner, hown, _⟩ := id hR
  have hne : k ≠ Bx := by
    rintro rfl
    rcases hor with h | h
    · omega
    · rw [hv] at hk; cases hk; simp [rowishT, TI] at h
  have hnr : some k ≠ v.ownBlock := by
    intro e
    rcases hor with h | h
    · have := own_base hown k e.symm; omega
    · obtain ⟨c, hc⟩ := own_typed hown k e.symm
      rw [hc] at hk; cases hk; simp [rowishT, TI] at h
  exact (Below.heap_setCell W2 ⟨Bx, 0, none⟩ v1 k hne).trans ((hg.block k hkl hnr).trans hk)
set_option maxRecDepth 100000 in
set_option maxHeartbeats 4000000 in
theorem appendseq_calls (gf : Nat) (lb : Array Value) (xs : List Int) (hl : xs.length < 1000000000) (eg : ∀ args w, (callFunc gf args).run Tryz.prog w = .ok (.enter gf args) w) (W : World) (hit : ∀ W', Below W.heap.size W W' → Iter TI Tryz.prog W.heap.size gf lb (fun x : Int => #[Value.int .i64 x]) xs W') :
    Calls Tryz.prog 104 #[.slice none 0 0, .func (.func gf) #[] lb] W fun e w' => ∃ v, e = .returned v ∧ Kd.R (Kd.int .i64) 3 w' W.heap.size (fun _ => True) v xs ∧ Below W.heap.size W w' := by
  refine callsIn_wide (n := 5) |>.1 ?_
  have HI := Lib.hid hit
  clear hit
  refine callsIn_of_wp_marks Tryz.func104 rfl trivial ?_ rfl
  simp only [Tryz.ntmps104, List.size_toArray, List.length_cons, List.length_nil, Nat.reduceAdd, Nat.reduceSub, Array.replicate_succ, Array.replicate_zero, List.push_toArray, List.append_toArray, List.nil_append, List.cons_append]
  gi_wp2
  obtain ⟨w2, e2⟩ : ∃ w2, W.alloc (.cells #[.slice none 0 0] 49) = w2 := ⟨_, rfl⟩
  have hs2 : w2.heap.size = W.heap.size + 1 := by rw [← e2]; simp
  have hB2 : Below W.heap.size W w2 := by rw [← e2]; exact (Below.refl _ W).alloc (Nat.le_refl _) _
  have hG2 : Got W W.heap.size w2.heap.size [] w2 := ⟨⟨.slice none 0 0, by rw [← e2]; exact heap_alloc_new W _, Kd.R_nil _ _ _ _ _⟩, hB2, Nat.le_refl _⟩
  rw [e2]
  clear e2
  have HG2 := Lib.hid hG2
  clear hG2
  refine range_turn (T := TI) (B0 := W.heap.size) rfl eg (fun _ => rfl) (fun r => HI.out _ ((hB2.alloc hB2.size _).alloc (by have := hB2.size; simp; omega) _))
    (fun i W' => Got W W.heap.size w2.heap.size (xs.take i) W') (fun _ => False)
    (fun i A C q ht => q.turn ht (by omega)) (fun A C q ht => q) (by rw [List.take_zero]; exact HG2.out)
    (fun x => { tmps := #[.slice none 0 0, .func (.func gf) #[] lb, .pointer (some ⟨W.heap.size, 0, none⟩), undef, .slice none 0 0, .int .i64 x, .func (.func gf) #[] lb, .int .i64 x, undef, undef, undef, undef, undef], defers := [] })
    ?assign ?body ?done ?stop
  case assign =>
    intro l' x W' K hK
    gi_wp2
    exact hK
  case body =>
    rintro l' i x W' hx hj
    obtain ⟨v, hv, hR⟩ := hj.bx
    have hc := hv.cell
    have hfq := hv.frozen
    have HV := Lib.hid hv
    have HRR := Lib.hid hR
    have HB := Lib.hid hj.below
    have hle := hj.le
    have hlen : (xs.take i).length ≤ xs.length := List.length_take_le' _ _
    have HX := Lib.hid hx
    clear hv hR hj hx
    gi_wp2_with (gi_at_builtin; go_loud (refine R_appendIn (Kd.int .i64) w2.heap.size rfl (.tmp 8) (.tmp 10) 49 3 (.int .i64 0) 8 rfl Tryz.underlying49 infoInt rfl Nat.one_pos (by omega) v (xs.take i) x [.int .i64 x] (fun _ => True) (fun _ => False) rfl rfl ?aP (fun _ hk => hk.elim) (fun _ _ => trivial) HRR.out ?aS ?aL ?_); (case aP => rfl); (case aS => exact hle); (case aL => omega); intro v1 w9 ho hg hat; obtain ⟨A1, c1, e1⟩ := Kd.R_slice ho; generalize (xs.take i ++ [x]).length = n1 at e1; subst e1; obtain ⟨q1, q2, q3⟩ := Got.more hle HB.out HV.out HRR.out ho hg (Nat.le_refl _) (by omega); have hcq := q1.cell; have hfq := q1.frozen; have Q2 := Lib.hid q2; have Q3 := Lib.hid q3; clear q1 q2 q3 ho hg hat)
    refine ⟨Q3.out, ?_⟩
    have e : xs.take (i + 1) = xs.take i ++ [x] := by
      have hx := HX.out
      obtain ⟨hi, hxe⟩ := List.getElem?_eq_some_iff.1 hx
      rw [List.take_succ_eq_append_getElem hi, hxe]
    show Got W W.heap.size w2.heap.size (xs.take (i + 1)) _
    rw [e]; exact Q2.out
  case done =>
    rintro D W' hD hj hK
    rw [List.take_length] at hj
    obtain ⟨v, hv, hR⟩ := hj.bx
    have hc := hv.cell
    have hB := hj.below
    gi_wp2
    refine ⟨by simp, .inl ⟨_, _, rfl, run_takeDeferred hK, ?_⟩⟩
    have ht : TurnFrom w2.heap.size W' (W'.putObj D (.deferred none)) := TurnFrom.putObj _ hD hK rfl
    exact ⟨_, results_tmp rfl _ _ _, v, rfl, Kd.R_lower (ht.R hR) (by omega), ht.below hB (by omega)⟩
  case stop =>
    rintro D W' hD h hK
    exact h.elim
set_option maxHeartbeats 1000000 in
theorem collect_calls (gf : Nat) (lb : Array Value) (xs : List Int) (hl : xs.length < 1000000000) (eg : ∀ args w, (callFunc gf args).run Tryz.prog w = .ok (.enter gf args) w) (W : World) (hit : ∀ W', Below W.heap.size W W' → Iter TI Tryz.prog W.heap.size gf lb (fun x : Int => #[Value.int .i64 x]) xs W') :
    Calls Tryz.prog 78 #[.func (.func gf) #[] lb] W fun e w' => ∃ v, e = .returned v ∧ Kd.R (Kd.int .i64) 3 w' W.heap.size (fun _ => True) v xs ∧ Below W.heap.size W w' := by
  have HC := Lib.hid (appendseq_calls gf lb xs hl eg W hit)
  clear hit
  go_enter Tryz.func78, Tryz.ntmps78
  go_wp2_with fail
  refine HC.out.mono ?_
  rintro e w' ⟨v, rfl, hR, hB⟩
  have H := Lib.hid (And.intro hR hB)
  clear hR hB HC
  go_wp2
  go_ret
  exact ⟨v, rfl, H.out⟩
end Go.Proofs.YtfinjenkgpndlaaGreatDoor.PA

namespace Go.Proofs.YtfinjenkgpndlaaGreatDoor.PA
open Go.RowKit Go.Shelf Go.Proofs.YtfinjenkgpndlaaGreatDoorW.PrintWords Go.Proofs.YtfinjenkgpndlaaGreatDoorW.PrintLast Go.Proofs.YtfinjenkgpndlaaGreatDoorW.PrintMore
set_option linter.unusedVariables false
set_option linter.unusedSimpArgs false

def fixK {α : Type} (d : Kd α) (w0 : World) : Kd α where
  sz := d.sz
  E := []
  K := fun _ x cs => d.K w0 x cs
  M := fun _ _ _ x cs => d.K w0 x cs
  K_len := fun h => d.K_len h
  K_one := fun h => d.K_one h
  K_below := fun _ h => h
  K_of_M := fun h => h
  M_mono := fun _ h => h
  M_bound := fun h => h
  M_move := fun _ h => h
  M_lower := fun _ h => h
theorem reps_take {α : Type} {R : α → List Value → Prop} {size : Nat} {ps : List α} {cs : List Value} (h : Reps R size ps cs) (m : Nat) (hm : m ≤ ps.length) : Reps R size (ps.take m) (cs.take (m * size)) := by
  have hle : m * size ≤ ps.length * size := Nat.mul_le_mul_right _ hm
  refine ⟨by rw [List.length_take, List.length_take, h.1, Nat.min_eq_left hle, Nat.min_eq_left hm], fun j p hj => ?_⟩
  have hlt : j < m := by
    have := (List.getElem?_eq_some_iff.1 hj).1
    rw [List.length_take] at this
    omega
  rw [List.getElem?_take_of_lt hlt] at hj
  have h2 := h.2 j p hj
  have h3 : j * size + size ≤ m * size := by rw [← Nat.succ_mul]; exact Nat.mul_le_mul_right _ hlt
  rw [List.drop_take, List.take_take, Nat.min_eq_left (by omega)]
  exact h2
theorem R_take {α : Type} {d : Kd α} {e : Nat} {w : World} {base : Nat} {ok : Nat → Prop} {b cap n : Nat} {xs : List α} (h : d.R e w base ok (.slice (some ⟨b, 0, none⟩) n cap) xs) (m : Nat) (hm : m ≤ xs.length) :
    d.R e w base ok (.slice (some ⟨b, 0, none⟩) m cap) (xs.take m) := by
  obtain ⟨h0, inner, ⟨hl, ho⟩, hr⟩ := h
  have hx : (xs.take m).length = m := by rw [List.length_take]; omega
  refine ⟨fun k hk => h0 k hk, inner.take (m * d.sz), ⟨?_, ?_⟩, ?_⟩
  · have := (reps_take hr m hm).1
    rw [this]
  · rcases ho with ⟨e', _⟩ | ⟨g, c, cur, e', h1, h2, h3, h4, h5, h6⟩
    · cases e'
    · cases e'
      refine .inr ⟨b, cap, cur, by rw [hx], h1, h2, by omega, h4, h5, ?_⟩
      rw [hx, ← h6, List.take_take, Nat.min_eq_left (Nat.mul_le_mul_right _ hm)]
  · exact (reps_take hr m hm)
theorem R_cells {α : Type} {d : Kd α} {e : Nat} {w : World} {base : Nat} {ok : Nat → Prop} {b cap n : Nat} {xs : List α} (h : d.R e w base ok (.slice (some ⟨b, 0, none⟩) n cap) xs) {j : Nat} {p : α} (hp : xs[j]? = some p) :
    ∃ c, c.length = d.sz ∧ d.K w p c ∧ ∀ i u, c[i]? = some u → w.cell? ⟨b, j * d.sz + i, none⟩ = some u := by
  obtain ⟨A, c', e', hc, hC⟩ := Kd.R_reads h
  cases e'
  obtain ⟨c, h1, h2, h3⟩ := C_cell hC hp
  exact ⟨c, h1, h2, fun i u hi => by simpa using h3 i u hi⟩
end Go.Proofs.YtfinjenkgpndlaaGreatDoor.PA

