/- . -/
import Derived.Test.YtnkpoddbbdmipaaGreatDoorUaQrp
import Derived.Deep.Slices
import Derived.ChangeArms
import Derived.ProofKit
import Derived.DataReads
import Derived.ChangeOld
namespace Go.Proofs.YtnkpoddbbdmipaaGreatDoor
open Go Go.RowKit
set_option linter.unusedVariables false
set_option linter.unusedSimpArgs false
variable {H : Type} {enc : TypeId × Value → H} {P : Program}
theorem field_at {w : World} {fs : Array Field} {n : Nat} {cs : List Value} {xs : List (DataW H × List MemPlace)}
  (hf : ∀ (i : Nat) (f : Field), fs[i]? = some f → DataW.trod enc P w 0 (fun _ => true) true n f.type (List.take (P.cellsOf f.type) (List.drop f.offset cs)) = xs[i]?)
  (i t o c : Nat) (h : (fs[i]?).map (fun f => (f.type, f.offset)) = some (t, o)) (hc : P.cellsOf t = c) :
  DataW.trod enc P w 0 (fun _ => true) true n t (List.take c (List.drop o cs)) = xs[i]? := by
 cases hg : fs[i]? with
 | none => rw [hg] at h; cases h
 | some f =>
  rw [hg] at h; simp only [Option.map_some, Option.some.injEq, Prod.mk.injEq] at h; obtain ⟨rfl, rfl⟩ := h; rw [← hc]; exact hf i f hg
end Go.Proofs.YtnkpoddbbdmipaaGreatDoor
