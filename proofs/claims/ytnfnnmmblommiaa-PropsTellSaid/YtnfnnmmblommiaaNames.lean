/- slices.Values over texts, props.names, props.Names: by hand: all names, in their order. -/
import Derived.Test.YtnfnnmmblommiaaIterMem
namespace Go.Proofs.Ytnfnnmmblommiaa.PA
open Go.RowKit Go.Shelf Go.Proofs.YtnfnnmmblommiaaW.PrintWords Go.Proofs.YtnfnnmmblommiaaW.PrintLast Go.Proofs.YtnfnnmmblommiaaW.PrintMore
attribute [local go_sem] Oper.semAt_some
set_option linter.unusedVariables false
set_option linter.unusedSimpArgs false

def SrcTx (W : World) (Bx b off : Nat) (c : Nat) (zs : List ByteArray) : Prop := W.cell? ⟨Bx, 0, none⟩ = some (.slice (some ⟨b, off, none⟩) zs.length c) ∧ ∀ j, j < zs.length → W.cell? ⟨b, off + j, none⟩ = some (.string (zs[j]?.getD ⟨#[]⟩))
def ofTx (Bx b k : Nat) : Prop := k = Bx ∨ k = b
theorem SrcTx.kept {W W' : World} {Bx b off c : Nat} {zs : List ByteArray} (h : SrcTx W Bx b off c zs) (hk : KeepsOf (ofTx Bx b) W W') : SrcTx W' Bx b off c zs :=
  ⟨hk.cell (.inl rfl) h.1, fun j hj => hk.cell (.inr rfl) (h.2 j hj)⟩
theorem SrcTx.below {W W' : World} {Bx b off c : Nat} {zs : List ByteArray} (h : SrcTx W Bx b off c zs) (hk : Below W.heap.size W W') : SrcTx W' Bx b off c zs := ⟨cell_b hk h.1, fun j hj => cell_b hk (h.2 j hj)⟩

set_option maxRecDepth 100000 in
set_option maxHeartbeats 4000000 in
theorem values1_in (n : Nat) (hn : 1 ≤ n) (l Bx b off c : Nat) (zs : List ByteArray) (hreach : zs.length * 16 ≤ 140737488351232) (J Jx : List ByteArray → World → Prop)
    (hY : ∀ pre x W, J pre W → pre.length < zs.length → YieldAt Fence.wide (n - 1) Try.prog l #[.string x] W fun e W' =>
      (e = .returned (.bool true) ∧ J (pre ++ [x]) W' ∧ KeepsOf (ofTx Bx b) W W') ∨ (e = .returned (.bool false) ∧ Jx (pre ++ [x]) W'))
    (W : World) (hS : SrcTx W Bx b off c zs) (h0 : J [] W) :
    CallsIn Fence.wide n Try.prog 67 #[.func (.yield l) #[] #[], .pointer (some ⟨Bx, 0, none⟩)] W fun e W' => (∃ v, e = .returned v) ∧
      ((∃ ys, ys = zs ∧ J ys W') ∨ (∃ pre, pre <+: zs ∧ Jx pre W')) := by
  have hc0 := hS.1
  refine callsIn_of_wp Try.func67 rfl trivial ?_ rfl
  simp only [Try.ntmps67, List.size_toArray, List.length_cons, List.length_nil, Nat.reduceAdd, Nat.reduceSub, Array.replicate_succ, Array.replicate_zero, List.push_toArray, List.append_toArray, List.nil_append, List.cons_append]
  gi_wp2
  gi_loopw [7] (fun i wr => ∃ k : Nat, k ≤ zs.length ∧ i = .int .i64 k ∧ Hid (J (zs.take k) wr) ∧ Hid (SrcTx wr Bx b off c zs))
    (fun i _ => zs.length - (intOf i).toNat)
  case atStart => exact ⟨0, Nat.zero_le _, rfl, h0, hS⟩
  case round =>
    obtain ⟨k, hk, rfl, hJs, hSs⟩ := hrel
    by_cases hlt : k < zs.length
    · obtain ⟨x, hx⟩ : ∃ x, zs[k]?.getD ⟨#[]⟩ = x := ⟨_, rfl⟩
      have hcx := hSs.out.2 k hlt
      rw [hx] at hcx
      have htk : zs.take k ++ [x] = zs.take (k + 1) := by
        rw [List.take_succ_eq_append_getElem hlt]
        rw [List.getElem?_eq_getElem hlt] at hx
        rw [← hx]; rfl
      have HT := Lib.hid htk
      clear hx htk
      obtain ⟨fn, tmps, assign, body, hy, hR⟩ := hY _ x wr hJs.out (by rw [List.length_take]; omega)
      gi_wp2
      refine hR.mono ?_
      rintro e W3 (⟨rfl, hJ3, hk3⟩ | ⟨rfl, hJx3⟩)
      · have HJ3 := Lib.hid hJ3
        have HS3 := Lib.hid (hSs.out.kept hk3)
        clear hJ3 hk3
        gi_wp2
        go_roundw
        case rel => exact ⟨k + 1, by omega, by go_num, (by rw [← HT.out]; exact HJ3.out), HS3⟩
        case measure => simp [intOf]; omega
      · have HJ3 := Lib.hid hJx3
        clear hJx3
        gi_wp2
        refine bodyPost_ret (results_none rfl _ _ _) rfl ?_
        exact ⟨⟨_, rfl⟩, .inr ⟨_, by rw [HT.out]; exact List.take_prefix _ _, HJ3.out⟩⟩
    · obtain rfl : k = zs.length := by omega
      gi_wp2
      go_end0
      exact ⟨⟨_, rfl⟩, .inl ⟨_, (List.take_length ..), hJs.out⟩⟩
theorem values_stops (n : Nat) (hn : 1 ≤ n) (Bx b off c : Nat) (zs : List ByteArray) (hreach : zs.length * 16 ≤ 140737488351232) (w : World) (hS : SrcTx w Bx b off c zs) :
    SeqStopsK Fence.wide n Try.prog 67 #[.pointer (some ⟨Bx, 0, none⟩)] (fun x : ByteArray => #[Value.string x]) (KeepsOf (ofTx Bx b)) (fun ys => ys = zs) (fun pre => pre <+: zs) zs.length w := fun l J Jx W hW hJ _ hY h0 =>
  values1_in n hn l Bx b off c zs hreach J Jx hY W (hS.below hW) h0

/-- All names. -/
def namesL : List ByteArray := [⟨#[65, 110, 121]⟩, ⟨#[68, 105, 103, 105, 116]⟩, ⟨#[69, 109, 111, 106, 105]⟩, ⟨#[72, 97, 110]⟩, ⟨#[75, 97, 110, 97]⟩, ⟨#[76, 101, 116, 116, 101, 114]⟩, ⟨#[76, 111, 119, 101, 114]⟩, ⟨#[77, 97, 114, 107]⟩, ⟨#[80, 117, 110, 99, 116]⟩, ⟨#[83, 112, 97, 99, 101]⟩, ⟨#[85, 112, 112, 101, 114]⟩]
set_option maxHeartbeats 1000000 in
theorem values_calls (A : Option Addr) (m c : Nat) (w : World) : Calls Try.prog 58 #[.slice A m c] w fun e w' => e = .returned (.func (.func 67) #[] #[.pointer (some ⟨w.heap.size, 0, none⟩)]) ∧ w' = w.alloc (.cells #[.slice A m c] 23) := by
  go_enter Try.func58, Try.ntmps58
  go_wp2
  go_ret
  exact ⟨rfl, rfl⟩
set_option maxHeartbeats 1000000 in
theorem names_calls (w : World) : Calls Try.prog 36 #[] w fun e w' => e = .returned (.func (.func 67) #[] #[.pointer (some ⟨w.heap.size + 1, 0, none⟩)]) ∧ w' = (w.alloc (.cells (namesL.map Value.string).toArray 9)).alloc (.cells #[.slice (some ⟨w.heap.size, 0, none⟩) 11 11] 23) := by
  go_enter Try.func36, Try.ntmps36
  go_wp2_with (go_at_call 58; refine (values_calls _ _ _ _).mono ?_; rintro e w' ⟨rfl, rfl⟩)
  go_ret
  exact ⟨by simp, rfl⟩
theorem names_src (w : World) : SrcTx ((w.alloc (.cells (namesL.map Value.string).toArray 9)).alloc (.cells #[.slice (some ⟨w.heap.size, 0, none⟩) 11 11] 23)) (w.heap.size + 1) w.heap.size 0 11 namesL := by
  refine ⟨?_, fun j hj => ?_⟩
  · have := cell_new (W := w.alloc (.cells (namesL.map Value.string).toArray 9)) (cs := #[.slice (some ⟨w.heap.size, 0, none⟩) 11 11]) (t := 23) 0 rfl
    rw [World.size_alloc] at this
    exact this
  · refine cell_old _ ?_
    refine cell_new (0 + j) ?_
    rw [Nat.zero_add, List.getElem?_toArray, List.getElem?_map, List.getElem?_eq_getElem hj]
    rfl
end Go.Proofs.Ytnfnnmmblommiaa.PA
