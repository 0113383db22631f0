/- . -/
import Derived.Test.YtnkpoddbbdmipaaGreatDoorTApPrs
import Derived.Test.YtnkpoddbbdmipaaGreatDoorTApSmd
namespace Go.Proofs.YtnkpoddbbdmipaaGreatDoor
open Go Go.RowKit
set_option linter.unusedVariables false
set_option linter.unusedSimpArgs false
theorem var_ren (v : VD) : ren (varI v) = [36] ++ inpB v.name v.t v.has v.v := by
 unfold varI; rw [ren_cons, inp_ren]; simp [ren, It.src, sgI, nmI]
theorem op_ren (mu : Bool) (nm : List UInt8) (vds : List VD) (sub : List SL) : ren (opI ⟨mu, nm, vds, sub⟩) = (if mu then [109, 117, 116, 97, 116, 105, 111, 110] else [113, 117, 101, 114, 121]) ++ (if nm = [] then [] else [32] ++ nm) ++ ren (parI (vds.map varI)) ++ ren (setI sub) := by
 unfold opI; rw [ren_cons, ren_app, ren_app]
 cases mu <;> by_cases h : nm = [] <;> simp [h, ren, It.src, nmI, wMutation, wQuery]
theorem fr_ren (f : FR) : ren (frI f) = [102, 114, 97, 103, 109, 101, 110, 116, 32] ++ f.name ++ [32, 111, 110, 32] ++ f.on_ ++ ren (setI f.sub) := by
 unfold frI; simp only [ren_cons]; simp [It.src, nmI, wFragment, wOn]
end Go.Proofs.YtnkpoddbbdmipaaGreatDoor
