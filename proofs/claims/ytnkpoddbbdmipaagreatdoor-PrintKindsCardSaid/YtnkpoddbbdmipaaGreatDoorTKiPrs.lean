/- . -/
import Derived.Test.YtnkpoddbbdmipaaGreatDoorTKiPpv
import Derived.Test.YtnkpoddbbdmipaaGreatDoorTKiSme
import Derived.Test.YtnkpoddbbdmipaaGreatDoorTKiOwD
namespace Go.Proofs.YtnkpoddbbdmipaaGreatDoor
open Go Go.RowKit
set_option linter.unusedVariables false
set_option linter.unusedSimpArgs false
def inpB (nm : List UInt8) (t : TR) (has : Bool) (v : VT) : List UInt8 := nm ++ [58, 32] ++ ren (typI t) ++ (if has then [32, 61, 32] ++ ren (valI v) else [])
theorem inp_ren (n : List It) (t : TR) (has : Bool) (v : VT) : ren (inpI n t has v) = inpB (ren n) t has v := by
 unfold inpI inpB; rw [ren_app, ren_cons, ren_cons, ren_app]
 cases has
 ·simp [ren, It.src, sgI]
 ·rw [if_pos rfl, ren_cons, ren_cons, ren_cons]; simp [It.src, sgI]
theorem of_ren (i : IN) : ren (fdI (FD.of i)) = ren (inI i) := by simp [fdI, FD.of, parI, inI]
def flB {α : Type} (f : α → List UInt8) (l : List α) (i : Nat) : List UInt8 := (l.take i).flatMap f
theorem flB_next {α : Type} (f : α → List UInt8) (l : List α) (j : Nat) (h : j < l.length) : flB f l (j + 1) = flB f l j ++ f l[j] := by
 unfold flB; rw [List.take_succ_eq_append_getElem h, List.flatMap_append]; simp
theorem flB_le {α : Type} (f : α → List UInt8) (l : List α) (j : Nat) : (flB f l j).length ≤ (flB f l l.length).length := by
 unfold flB
 conv => rhs; rw [List.take_length, ← List.take_append_drop j l, List.flatMap_append, List.length_append]
 omega
theorem flB_ren {α : Type} (g : α → List It) (f : α → List UInt8) (h : ∀ x, ren (g x) = f x) : ∀ l : List α, ren (l.flatMap g) = flB f l l.length
 | [] => rfl
 | x :: l => by
  have := flB_ren g f h l; unfold flB at this ⊢; rw [List.take_length] at this ⊢; rw [List.flatMap_cons, List.flatMap_cons, ren_app, h, this]
def selB (x : SL) : List UInt8 := [32] ++ ren (selI x)
def dirB (d : DR) : List UInt8 := [32, 64] ++ d.name ++ ren (argsI d.args)
theorem set_ren (l : List SL) : ren (setI l) = [32, 123] ++ flB selB l l.length ++ [32, 125] := by
 unfold setI brI; rw [selsI_map, ren_cons, ren_cons, ren_app, flB_ren _ selB (fun x => by rw [ren_cons]; rfl)]; simp [ren, It.src, sgI]
theorem dirs_ren (l : List DR) : ren (l.flatMap dirI) = flB dirB l l.length := flB_ren _ dirB (fun d => by
 unfold dirI dirB; rw [ren_cons, ren_cons, ren_cons]
 simp [It.src, sgI, nmI]) l
end Go.Proofs.YtnkpoddbbdmipaaGreatDoor
