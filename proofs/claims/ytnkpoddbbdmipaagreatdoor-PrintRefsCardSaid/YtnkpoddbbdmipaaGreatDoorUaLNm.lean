/- . -/
import Derived.Test.YtnkpoddbbdmipaaGreatDoorUaTyi
import Derived.Test.YtnkpoddbbdmipaaGreatDoorUaAw8
namespace Go.Proofs.YtnkpoddbbdmipaaGreatDoor
open Go Go.RowKit
set_option linter.unusedVariables false
set_option linter.unusedSimpArgs false
theorem agg_of_cellsQ {v : Value} {cs : List Value} (h : v.cells.toList = cs) (hl : cs.length ≠ 1) : v = .agg cs.toArray := by
 cases v with
 | agg a => simp [Value.cells] at h; subst h; simp
 | _ => simp [Value.cells] at h; subst h; simp at hl
theorem tt_of_Trod {H : Type} {enc : TypeId × Value → H} {w : World} {v : Value} {d : DataW H} {p : List MemPlace} (h : DataW.Trod enc Tryz.prog w 0 (fun _ => true) true 41 v d p) (hw : ∀ n ∈ d.weights Tryz.prog 41, n ≤ 140737488351232) :
  ∃ (t : TT) (s : List UInt8) (a : Option Addr) (l c : Nat) (b : Bool), v = .agg #[.string ⟨s.toArray⟩, .slice a l c, .bool b] ∧ CellsAt w (fun q => q < w.heap.size) (ttC t) [.string ⟨s.toArray⟩, .slice a l c, .bool b] ∧ TSz t := by
 obtain ⟨fuel, hf⟩ := h; obtain ⟨t, ht, hz⟩ := tt_of_trod w fuel _ _ hf hw; obtain ⟨s, of, b⟩ := t; obtain ⟨v', e, hv⟩ := tt_cells ht; obtain ⟨a, c, rfl⟩ := row_form hv; rw [e] at ht; exact ⟨_, s, a, _, c, b, agg_of_cellsQ e (by simp), ht, hz⟩
end Go.Proofs.YtnkpoddbbdmipaaGreatDoor
