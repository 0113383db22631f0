/- . -/
import Derived.Test.YtnkpoddbbdmipaaGreatDoorTKiPrs
import Derived.Test.YtnkpoddbbdmipaaGreatDoorTKiSme
import Derived.Deep.QuietTactic
import Derived.BigQuiet
namespace Go.Proofs.YtnkpoddbbdmipaaGreatDoor
open Go Go.RowKit
set_option linter.unusedVariables false
set_option linter.unusedSimpArgs false
def nmsI (ns : List (List UInt8)) : List (List It) := ns.map fun s => [nmI s]
def fldB (fs : List FD) (j : Nat) : List UInt8 := (fs.take j).flatMap fun f => 32 :: ren (fdI f)
theorem flat_ren : ∀ fs : List FD, ren (fs.flatMap fun f => .sp 32 :: fdI f) = fldB fs fs.length
 | [] => rfl
 | f :: fs => by
  have := flat_ren fs; unfold fldB at this ⊢; rw [List.take_length] at this ⊢; rw [List.flatMap_cons, List.flatMap_cons, ren_app, ren_cons, this]; rfl
theorem brI_ren (fs : List FD) : ren (brI (fs.flatMap fun f => .sp 32 :: fdI f)) = [32, 123] ++ fldB fs fs.length ++ [32, 125] := by
 unfold brI; rw [ren_cons, ren_cons, ren_app, flat_ren]; simp [ren, It.src, sgI]
theorem h0 : ∀ g, sepI g [] = [] := fun _ => rfl
theorem td_ren1a (nm : List UInt8) (fs : List FD) (ns : List (List UInt8)) (h : ns ≠ []) : ren (tdI ⟨1, nm, fs, ns⟩) = [116, 121, 112, 101, 32] ++ nm ++ [32, 105, 109, 112, 108, 101, 109, 101, 110, 116, 115, 32] ++ ren (sepI [.sp 32, sgI 38, .sp 32] (nmsI ns)) ++ ([32, 123] ++ fldB fs fs.length ++ [32, 125]) := by
 rw [tdI_eq]; have hb := brI_ren fs
 try simp only [h, and_true, ne_eq, not_false_eq_true, if_true, ren_app, ren_cons, if_pos, hb]
 simp [namI, nmsI, ren, It.src, nmI, sgI, wType, wInterface, wInput, wUnion, wEnum, wImplements, h0, sepI, ren_app]; simpa [ren] using hb
theorem td_ren1b (nm : List UInt8) (fs : List FD) (ns : List (List UInt8)) (h : ns = []) : ren (tdI ⟨1, nm, fs, ns⟩) = [116, 121, 112, 101, 32] ++ nm ++ [] ++ ren (sepI [.sp 32, sgI 38, .sp 32] (nmsI ns)) ++ ([32, 123] ++ fldB fs fs.length ++ [32, 125]) := by
 rw [tdI_eq]; have hb := brI_ren fs; subst h
 try simp only [ren_app, ren_cons, hb]
 simp [namI, nmsI, ren, It.src, nmI, sgI, wType, wInterface, wInput, wUnion, wEnum, wImplements, h0, sepI, ren_app]; simpa [ren] using hb
theorem td_ren2 (nm : List UInt8) (fs : List FD) (ns : List (List UInt8)) (h : ns = []) : ren (tdI ⟨2, nm, fs, ns⟩) = [105, 110, 116, 101, 114, 102, 97, 99, 101, 32] ++ nm ++ [] ++ ren (sepI [.sp 32, sgI 124, .sp 32] (nmsI ns)) ++ ([32, 123] ++ fldB fs fs.length ++ [32, 125]) := by
 rw [tdI_eq]; have hb := brI_ren fs; subst h
 try simp only [ren_app, ren_cons, hb]
 simp [namI, nmsI, ren, It.src, nmI, sgI, wType, wInterface, wInput, wUnion, wEnum, wImplements, h0, sepI, ren_app]; simpa [ren] using hb
theorem td_ren3 (nm : List UInt8) (fs : List FD) (ns : List (List UInt8)) (h : True) : ren (tdI ⟨3, nm, fs, ns⟩) = [117, 110, 105, 111, 110, 32] ++ nm ++ [32, 61, 32] ++ ren (sepI [.sp 32, sgI 124, .sp 32] (nmsI ns)) ++ [] := by
 rw [tdI_eq]
 try simp only [ren_app, ren_cons]
 simp [namI, nmsI, ren, It.src, nmI, sgI, wType, wInterface, wInput, wUnion, wEnum, wImplements, h0, sepI, ren_app]
theorem td_ren4 (nm : List UInt8) (fs : List FD) (ns : List (List UInt8)) (h : True) : ren (tdI ⟨4, nm, fs, ns⟩) = [101, 110, 117, 109, 32] ++ nm ++ [32, 123, 32] ++ ren (sepI [.sp 32] (nmsI ns)) ++ [32, 125] := by
 rw [tdI_eq]
 try simp only [ren_app, ren_cons]
 simp [namI, nmsI, ren, It.src, nmI, sgI, wType, wInterface, wInput, wUnion, wEnum, wImplements, h0, sepI, ren_app]
theorem td_ren5 (nm : List UInt8) (fs : List FD) (ns : List (List UInt8)) (h : ns = []) : ren (tdI ⟨5, nm, fs, ns⟩) = [105, 110, 112, 117, 116, 32] ++ nm ++ [] ++ ren (sepI [.sp 32, sgI 124, .sp 32] (nmsI ns)) ++ ([32, 123] ++ fldB fs fs.length ++ [32, 125]) := by
 rw [tdI_eq]; have hb := brI_ren fs; subst h
 try simp only [ren_app, ren_cons, hb]
 simp [namI, nmsI, ren, It.src, nmI, sgI, wType, wInterface, wInput, wUnion, wEnum, wImplements, h0, sepI, ren_app]; simpa [ren] using hb
end Go.Proofs.YtnkpoddbbdmipaaGreatDoor
