/- What a printed function tells at last, given rounds enough. -/
import Derived.Test.YtnfnnmmblommiaaPAx0
namespace Go.Proofs.Ytnfnnmmblommiaa.PA
set_option linter.unusedVariables false
/-- With rounds enough it tells r. -/
def Evt {α : Type} (f : Nat → Option α) (r : α) : Prop := ∃ K, ∀ k, K ≤ k → f k = some r
theorem Evt.of {α : Type} {f : Nat → Option α} {r : α} (h : ∀ k, f k = some r) : Evt f r := ⟨0, fun k _ => h k⟩
theorem Evt.pure {α : Type} (r : α) : Evt (fun _ => some r) r := ⟨0, fun _ _ => rfl⟩
theorem Evt.bind {α β : Type} {f : Nat → Option α} {g : Nat → α → Option β} {a : α} {b : β} (h : Evt f a) (k : Evt (fun n => g n a) b) : Evt (fun n => (f n).bind (g n)) b := by
  obtain ⟨K, h⟩ := h
  obtain ⟨L, k⟩ := k
  exact ⟨max K L, fun n hn => by show (f n).bind (g n) = some b; rw [h n (by omega)]; exact k n (by omega)⟩
theorem Evt.succ {α : Type} {f g : Nat → Option α} {r : α} (e : ∀ k, f (k + 1) = g k) (h : Evt g r) : Evt f r := by
  obtain ⟨K, h⟩ := h
  refine ⟨K + 1, fun k hk => ?_⟩
  obtain ⟨j, rfl⟩ : ∃ j, k = j + 1 := ⟨k - 1, by omega⟩
  rw [e, h j (by omega)]
theorem Evt.get {α : Type} {f : Nat → Option α} {r : α} (h : Evt f r) : ∃ k, f k = some r := by
  obtain ⟨K, h⟩ := h
  exact ⟨K, h K (Nat.le_refl _)⟩
theorem Evt.congr {α : Type} {f g : Nat → Option α} {r : α} (e : ∀ k, f k = g k) (h : Evt g r) : Evt f r := by
  obtain ⟨K, h⟩ := h
  exact ⟨K, fun k hk => by rw [e, h k hk]⟩
theorem Evt.cast {α : Type} {f : Nat → Option α} {r s : α} (h : Evt f r) (e : r = s) : Evt f s := e ▸ h
end Go.Proofs.Ytnfnnmmblommiaa.PA
