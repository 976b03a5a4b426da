/- Which words end where in a text: trie.Ends. -/
import Derived.Test.YteaadpgammbdgaaAdd
namespace Go.Proofs.Yteaadpgammbdgaa.PA
open Go.RowKit Go.Shelf Go.Proofs.YteaadpgammbdgaaW.PrintWords Go.Proofs.YteaadpgammbdgaaW.PrintLast Go.Proofs.YteaadpgammbdgaaW.PrintMore
set_option linter.unusedVariables false
set_option linter.unusedSimpArgs false

/-- What stands ahead of a place, from the place on back: so many. -/
def ahead (text : List Int) (tz k : Nat) : List Int := ((text.take tz).reverse).take k
/-- The lengths of the words that end there, up to k. -/
def endsUp (g : Gh) (text : List Int) (tz : Nat) : Nat → List Int
  | 0 => []
  | k + 1 => endsUp g text tz k ++ (if isWord g (ahead text tz (k + 1)) = true then [((k + 1 : Nat) : Int)] else [])
theorem ahead_succ {text : List Int} {tz k : Nat} (h1 : tz ≤ text.length) (h2 : k < tz) : ahead text tz (k + 1) = ahead text tz k ++ [rd text (((tz - 1 - k : Nat)) : Int)] := by
  unfold ahead
  have hl : k < (text.take tz).reverse.length := by simp; omega
  rw [List.take_succ_eq_append_getElem hl]
  congr 1
  rw [List.getElem_reverse]
  have h3 : tz - 1 - k < text.length := by omega
  simp [rd, h3]
  congr 1
  omega
theorem endsUp_none {w : World} {N : Nat} {g : Gh} (T : Tree w N g) {text : List Int} {tz k : Nat} (h1 : tz ≤ text.length) (h : g (ahead text tz k) = none) : ∀ d, k + d ≤ tz → endsUp g text tz (k + d) = endsUp g text tz k
  | 0, _ => rfl
  | d + 1, hd => by
    rw [← Nat.add_assoc, endsUp, endsUp_none T h1 h d (by omega)]
    have hp : ∃ q, ahead text tz (k + d + 1) = ahead text tz k ++ q := ⟨(ahead text tz (k + d + 1)).drop k, by
      unfold ahead
      have e : ((text.take tz).reverse).take k = (((text.take tz).reverse).take (k + d + 1)).take k := by rw [List.take_take]; congr 1; omega
      rw [e, List.take_append_drop]⟩
    obtain ⟨q, hq⟩ := hp
    have : isWord g (ahead text tz (k + d + 1)) = false := by
      unfold isWord
      rw [hq, T.none_app h q]
    rw [this]
    simp
theorem endsUp_length (g : Gh) (text : List Int) (tz : Nat) : ∀ k, (endsUp g text tz k).length ≤ k
  | 0 => Nat.le_refl _
  | k + 1 => by
    have := endsUp_length g text tz k
    rw [endsUp, List.length_append]
    split <;> simp <;> omega
set_option maxRecDepth 100000 in
set_option maxHeartbeats 4000000 in
theorem ends_none {w : World} {tb c : Nat} {A : Option Addr} {m : Nat} {tz : Int} (h : tz < 0 ∨ (m : Int) < tz) :
    Calls Try.prog 17 #[.pointer (some ⟨tb, 0, none⟩), .slice A m c, .int .i64 tz] w fun e w' => e = .returned (.slice none 0 0) ∧ w' = w := by
  by_cases h0 : tz < 0
  · have d1 : decide (tz < 0) = true := decide_eq_true h0
    clear h
    go_enter Try.func17, Try.ntmps17
    go_wp2
    go_ret
    exact ⟨rfl, rfl⟩
  · have h2 : (m : Int) < tz := by omega
    have d1 : decide (tz < 0) = false := decide_eq_false h0
    have d2 : decide ((m : Int) < tz) = true := decide_eq_true h2
    clear h
    go_enter Try.func17, Try.ntmps17
    go_wp2
    go_ret
    exact ⟨rfl, rfl⟩
set_option maxRecDepth 100000 in
set_option maxHeartbeats 4000000 in
theorem ends_calls {w : World} {tb N n c tz : Nat} {A : Option Addr} {g : Gh} {zs : List Int} (T : TrieAt w tb N g n) (hrow : Kd.C (Kd.int .i32) w A zs.length zs) (hok : ∀ z ∈ zs, (Lit.int .i32 z).wf = true) (hto : tz ≤ zs.length) (hl : zs.length < 1099511627776) :
    Calls Try.prog 17 #[.pointer (some ⟨tb, 0, none⟩), .slice A zs.length c, .int .i64 (tz : Int)] w fun e w' => ∃ v, e = .returned v ∧ Kd.R (Kd.int .i64) 3 w' w.heap.size (fun _ => True) v (endsUp g zs tz tz) ∧ Below w.heap.size w w' := by
  obtain ⟨rb, mb, hh, hobj, hroot⟩ := T.obj
  have hct : w.cell? ⟨tb, 0, none⟩ = some (.pointer (some ⟨rb, 0, none⟩)) := by unfold World.cell?; simp only [hobj]; rfl
  have d1 : decide ((tz : Int) < 0) = false := decide_eq_false (by omega)
  have d2 : decide ((zs.length : Int) < (tz : Int)) = false := decide_eq_false (by omega)
  have d3 : decide (zs.length < tz) = false := decide_eq_false (by omega)
  have HT := Lib.hid T.tree
  have HR := Lib.hid hrow
  have HOK := Lib.hid hok
  have HRT := Lib.hid hroot
  clear T hobj hrow hok hroot
  go_enter Try.func17, Try.ntmps17
  go_wp2
  clear d1 d2 d3
  go_loopw [7, 8, 9] (fun v at_ i wr => ∃ (k nb mb : Nat) (h : Bool), k ≤ tz ∧ i = .int .i64 ((tz : Int) - 1 - k) ∧ at_ = .pointer (some ⟨nb, 0, none⟩) ∧ Hid (g (ahead zs tz k) = some (nb, mb, h)) ∧ Hid (Kd.R (Kd.int .i64) 3 wr w.heap.size (fun _ => True) v (endsUp g zs tz k)) ∧ Hid (Below w.heap.size w wr)) (fun _ _ i _ => (intOf i + 1).toNat)
  case atStart => exact ⟨0, rb, mb, hh, Nat.zero_le _, by simp, rfl, Lib.hid (by simpa [ahead] using HRT.out), Lib.hid (Kd.R_nil _ _ _ _ _), Lib.hid (Below.refl _ _)⟩
  case round =>
    obtain ⟨k, nb, mb, h, hk, rfl, rfl, HG, HO, HB⟩ := hrel
    by_cases hlt : k < tz
    · obtain ⟨ad, rfl, hx⟩ := Kd.at_int (Kd.C_below HR.out HB.out) ((tz : Int) - 1 - k) (by omega) (by omega)
      rw [show ((tz : Int) - 1 - k).toNat = tz - 1 - k by omega] at hx
      have hs := ahead_succ hto hlt
      rw [show ((tz - 1 - k : Nat) : Int) = (tz : Int) - 1 - k by omega] at hs
      have hwx : (Lit.int .i32 (rd zs ((tz : Int) - 1 - k))).wf = true := HOK.out _ (by
        rw [show (tz : Int) - 1 - k = ((tz - 1 - k : Nat) : Int) by omega]
        have h3 : tz - 1 - k < zs.length := by omega
        simp [rd, h3])
      have hd := down_false (HT.out.below HB.out) HG.out _ hwx
      rw [← hs] at hd
      generalize rd zs ((tz : Int) - 1 - k) = x at hx hd
      have b1 : (0 : Int) ≤ (tz : Int) - 1 - k := by omega
      have b2 : (tz : Int) - 1 - k < zs.length := by omega
      have hup : endsUp g zs tz (k + 1) = endsUp g zs tz k ++ (if isWord g (ahead zs tz (k + 1)) = true then [((k + 1 : Nat) : Int)] else []) := rfl
      cases hgx : g (ahead zs tz (k + 1)) with
      | none =>
        rw [hgx] at hd
        simp only [Option.map_none, ptr] at hd
        have HD := Lib.hid hd
        have HN := Lib.hid (endsUp_none HT.out hto hgx (tz - (k + 1)) (by omega))
        have HU := Lib.hid hup
        have HX := Lib.hid hgx
        clear hd hgx hup hs hwx
        go_wp2_with (go_at_call 48; refine HD.out.mono ?_; rintro e w' ⟨rfl, rfl⟩)
        go_ret
        have e1 : k + 1 + (tz - (k + 1)) = tz := by omega
        have h5 := HN.out
        rw [e1] at h5
        refine ⟨_, rfl, ?_, HB.out⟩
        rw [h5, HU.out]
        have : isWord g (ahead zs tz (k + 1)) = false := by unfold isWord; rw [HX.out]
        rw [this]
        simpa using HO.out
      | some y =>
        obtain ⟨nb2, mb2, h2⟩ := y
        rw [hgx] at hd
        simp only [Option.map_some, ptr] at hd
        have HD := Lib.hid hd
        have HX := Lib.hid hgx
        have hiw : isWord g (ahead zs tz (k + 1)) = h2 := by unfold isWord; rw [hgx]
        rw [hiw] at hup
        have hc1 := (HT.out.below HB.out).cell1 hgx
        have hel := endsUp_length g zs tz k
        clear hd hgx hs hwx hiw
        cases h2 with
        | false =>
          rw [if_neg (by decide), List.append_nil] at hup
          have HU := Lib.hid hup
          clear hup
          go_wp2_with (go_at_call 48; refine HD.out.mono ?_; rintro e w' ⟨rfl, rfl⟩)
          exact ⟨⟨k + 1, nb2, mb2, false, by omega, by go_num, rfl, HX, Lib.hid (by rw [HU.out]; exact HO.out), HB⟩, by simp [intOf]; omega⟩
        | true =>
          rw [if_pos rfl] at hup
          have HU := Lib.hid hup
          clear hup
          have hinfo : (Try.prog.info? 3).map (fun i => (i.zero, i.size, i.bytes)) = some (some (.int .i64 0), 1, 8) := by kernel_rfl
          have HI := Lib.hid hinfo
          clear hinfo
          go_wp2_with (first | (go_at_call 48; refine HD.out.mono ?_; rintro e w' ⟨rfl, rfl⟩) | (at_builtin; go_loud (refine Kd.R_append (Kd.int .i64) (w0 := w) w.heap.size rfl (.tmp 40) (.tmp 44) 29 3 (.int .i64 0) 8 rfl Try.underlying29 HI.out rfl (by decide) (by omega) u7 (endsUp g zs tz k) ((tz : Int) - ((tz : Int) - 1 - k)) [.int .i64 ((tz : Int) - ((tz : Int) - 1 - k))] (fun _ => True) (fun _ => False) rfl rfl rfl (fun _ hk => hk.elim) (fun _ _ => trivial) HO.out HB.out HB.out.size (by omega) ?_); intro v9 w9 ho hb hg hat; have HO3 := Lib.hid ho; have HB3 := Lib.hid hb; clear ho hb hg hat))
          exact ⟨⟨k + 1, nb2, mb2, true, by omega, by go_num, rfl, HX, Lib.hid (by rw [HU.out, show ((k + 1 : Nat) : Int) = (tz : Int) - ((tz : Int) - 1 - k) by omega]; exact HO3.out), HB3⟩, by simp [intOf]; omega⟩
    · obtain rfl : k = tz := by omega
      have b1 : (k : Int) - 1 - k < 0 := by omega
      go_wp2
      go_ret
      exact ⟨_, rfl, HO.out, HB.out⟩
end Go.Proofs.Yteaadpgammbdgaa.PA
