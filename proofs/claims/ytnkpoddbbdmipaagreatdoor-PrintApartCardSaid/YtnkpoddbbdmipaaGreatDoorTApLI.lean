/- . -/
import Derived.Test.YtnkpoddbbdmipaaGreatDoorTApRfl
namespace Go.Proofs.YtnkpoddbbdmipaaGreatDoor
open Go Go.RowKit
set_option linter.unusedVariables false
set_option linter.unusedSimpArgs false
def LI {α : Type} (p : List Tok → PR α) (c : List UInt8) (enc : α → List Cell) (N : Nat) (T : TypeId) (total : PR (List α)) (w : World) (b : Nat) (all : RL) (lo : Nat) (v : Value) (first : Bool) (wr : World) : Prop :=
 ∃ (σ : PR Unit) (rs : List (List Cell)), Rf wr b all σ ∧ OwnRow wr lo T N v rs ∧ Only (fun k => k = b) w wr ∧ LS p c total first rs.length (fun acc => rs = acc.map enc) σ
def rowF (v : Value) : Prop := ∃ (a : Option Addr) (l c : Nat), v = .slice a l c
end Go.Proofs.YtnkpoddbbdmipaaGreatDoor
