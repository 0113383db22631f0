/- Declarations in memory; their forms. -/
import Derived.Test.YtgephneppgcnlaaGreatDoorSdT
import Derived.Test.YtgephneppgcnlaaGreatDoorSdC
import Derived.Test.YtgephneppgcnlaaGreatDoorEnD
namespace Go.Proofs.YtgephneppgcnlaaGreatDoor
open Go Go.RowKit
set_option linter.unusedVariables false
set_option linter.unusedSimpArgs false

def fdJ (v : Value) : Prop := ∃ (s0 : List UInt8) (a0 : Option Addr) (l0 e0 : Nat) (s1 : List UInt8) (a1 : Option Addr) (l1 e1 : Nat) (b1 b2 : Bool) (k : Nat) (n : Int) (s2 : List UInt8) (a2 : Option Addr) (l2 e2 : Nat) (a3 : Option Addr) (l3 e3 : Nat), v = .agg #[.string ⟨s0.toArray⟩, .slice a0 l0 e0, .string ⟨s1.toArray⟩, .slice a1 l1 e1, .bool b1, .bool b2, .int .u8 (k : Int), .int .i64 n, .string ⟨s2.toArray⟩, .slice a2 l2 e2, .slice a3 l3 e3]
def tdJ (v : Value) : Prop := ∃ (k : Nat) (s0 : List UInt8) (a0 : Option Addr) (l0 e0 : Nat) (a1 : Option Addr) (l1 e1 : Nat), v = .agg #[.int .u8 (k : Int), .string ⟨s0.toArray⟩, .slice a0 l0 e0, .slice a1 l1 e1]
def rowJ (v : Value) : Prop := ∃ (a : Option Addr) (l c : Nat), v = .slice a l c
theorem str_inj {s x : List UInt8} (h : Value.string ⟨s.toArray⟩ = .string ⟨x.toArray⟩) : s = x := by
  injection h with h; injection h with h
  simpa using congrArg Array.toList h
theorem agg_cells {α : Type} {B : Nat} {enc : α → List Cell} {w : World} {x : α} {cs : List Value} (h : aggP B enc w x (.agg cs.toArray)) : CellsAt w (fun q => B ≤ q) (enc x) cs := by
  obtain ⟨cs', e, h⟩ := h
  injection e with e
  have e2 : cs = cs' := by simpa using congrArg Array.toList e
  rw [e2]; exact h
end Go.Proofs.YtgephneppgcnlaaGreatDoor
