/- A slice expression over a row that the call owns, or that came in: one value, told by what it is good for. -/
import Derived.Test.YtlkglhgndfhjeaaRow
import Derived.ChangeKeysEq
namespace Go.Proofs.Ytlkglhgndfhjeaa
open Go Go.RowKit
set_option linter.unusedVariables false
set_option linter.unusedSimpArgs false
section
variable {P : Program} {w : World} {base : Nat} {t e : TypeId} {size : Nat} {a : Option Addr} {n cap : Nat} {xs : List Value}

theorem elem_of (ht : P.underlying t = some (.slice e)) : P.elem t = e := by simp [Program.elem, ht]
theorem size_of (hz : (P.info? e).map (·.size) = some size) (w1 : World) : (sizeOf e).run P w1 = .ok size w1 := by
  cases hi : P.info? e with
  | none => rw [hi] at hz; cases hz
  | some i => rw [run_sizeOf w1 hi]; rw [hi] at hz; simp at hz; simp [Program.cellsOf, hi, hz]
/-- 'v[lo:]' -/
theorem Row.cutL (h : Row w base e size (.slice a n cap) n xs) (ht : P.underlying t = some (.slice e)) (hz : (P.info? e).map (·.size) = some size) (k : IntKind) (lo : Nat) (hlo : lo ≤ n) :
    ∃ v', (∀ w1, (Instr.slice t (.slice a n cap) (some (.int k lo)) none none).run P w1 = .ok v' w1) ∧ Row w base e size v' (n - lo) (xs.drop (lo * size)) ∧ (∀ g, v'.ownBlock = some g → (Value.slice a n cap).ownBlock = some g) := by
  have hc := h.cut (lo := lo) (hi := n) hlo (Nat.le_refl _)
  have hl := h.1
  rw [List.take_of_length_le (by rw [List.length_drop, hl, Nat.sub_mul]; omega)] at hc
  refine ⟨_, fun w1 => ?_, hc, ?_⟩
  · rw [run_slice_l (P := P) (w := w1) t a n cap (by rw [elem_of ht]; exact ht) k lo (by omega) (by omega), elem_of ht, size_of hz]
    simp [Result.andThen, sliced]
  · intro g hg
    split at hg
    · cases a with
      | none => simp [Value.ownBlock] at hg
      | some b => exact hg
    · cases a with
      | none => simp [Value.ownBlock] at hg
      | some b => simp [Value.ownBlock] at hg ⊢; rw [← hg]; unfold Addr.add; split <;> rfl
/-- 'v[lo:hi]' -/
theorem Row.cutLH (h : Row w base e size (.slice a n cap) n xs) (ht : P.underlying t = some (.slice e)) (hz : (P.info? e).map (·.size) = some size) (k k' : IntKind) (lo hi : Nat) (hlo : lo ≤ hi) (hhi : hi ≤ n) (hnc : n ≤ cap) :
    ∃ v', (∀ w1, (Instr.slice t (.slice a n cap) (some (.int k lo)) (some (.int k' hi)) none).run P w1 = .ok v' w1) ∧ Row w base e size v' (hi - lo) ((xs.drop (lo * size)).take ((hi - lo) * size)) ∧ (∀ g, v'.ownBlock = some g → (Value.slice a n cap).ownBlock = some g) := by
  have hc := h.cut (lo := lo) (hi := hi) hlo hhi
  refine ⟨_, fun w1 => ?_, hc, ?_⟩
  · rw [run_slice_lh (P := P) (w := w1) t a n cap (by rw [elem_of ht]; exact ht) k k' lo hi (by omega) (by omega) (by omega), elem_of ht, size_of hz]
    simp [Result.andThen, sliced]
  · intro g hg
    split at hg
    · cases a with
      | none => simp [Value.ownBlock] at hg
      | some b => exact hg
    · cases a with
      | none => simp [Value.ownBlock] at hg
      | some b => simp [Value.ownBlock] at hg ⊢; rw [← hg]; unfold Addr.add; split <;> rfl
end
end Go.Proofs.Ytlkglhgndfhjeaa
