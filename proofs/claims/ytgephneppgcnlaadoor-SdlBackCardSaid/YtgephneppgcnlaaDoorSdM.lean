/- Declarations in memory; their forms. -/
import Derived.Test.YtgephneppgcnlaaDoorSdT
import Derived.Test.YtgephneppgcnlaaDoorSdP
import Derived.Test.YtgephneppgcnlaaDoorEnD
namespace Go.Proofs.YtgephneppgcnlaaDoor
open Go Go.RowKit
set_option linter.unusedVariables false
set_option linter.unusedSimpArgs false

def inC (i : IN) : List Cell := strC i.name :: .row 11 [] :: (trC i.t ++ boolC i.has :: valC i.v)
def fdC (f : FD) : List Cell := strC f.name :: .row 11 (f.args.map inC) :: (trC f.t ++ boolC f.has :: valC f.v)
theorem fdC_of (i : IN) : fdC (FD.of i) = inC i := rfl
def tdC (t : TD) : List Cell := [intC .u8 t.kind, strC t.name, .row 11 (t.fields.map fdC), .row 1 (t.names.map fun s => [strC s])]
def fdJ (v : Value) : Prop := ∃ (s0 : List UInt8) (a0 : Option Addr) (l0 e0 : Nat) (s1 : List UInt8) (a1 : Option Addr) (l1 e1 : Nat) (b1 b2 : Bool) (k : Nat) (n : Int) (s2 : List UInt8) (a2 : Option Addr) (l2 e2 : Nat) (a3 : Option Addr) (l3 e3 : Nat), v = .agg #[.string ⟨s0.toArray⟩, .slice a0 l0 e0, .string ⟨s1.toArray⟩, .slice a1 l1 e1, .bool b1, .bool b2, .int .u8 (k : Int), .int .i64 n, .string ⟨s2.toArray⟩, .slice a2 l2 e2, .slice a3 l3 e3]
def tdJ (v : Value) : Prop := ∃ (k : Nat) (s0 : List UInt8) (a0 : Option Addr) (l0 e0 : Nat) (a1 : Option Addr) (l1 e1 : Nat), v = .agg #[.int .u8 (k : Int), .string ⟨s0.toArray⟩, .slice a0 l0 e0, .slice a1 l1 e1]
def rowJ (v : Value) : Prop := ∃ (a : Option Addr) (l c : Nat), v = .slice a l c
theorem str_inj {s x : List UInt8} (h : Value.string ⟨s.toArray⟩ = .string ⟨x.toArray⟩) : s = x := by
  injection h with h; injection h with h
  simpa using congrArg Array.toList h
theorem agg_cells {α : Type} {B : Nat} {enc : α → List Cell} {w : World} {x : α} {cs : List Value} (h : aggP B enc w x (.agg cs.toArray)) : CellsAt w (fun q => B ≤ q) (enc x) cs := by
  obtain ⟨cs', e, h⟩ := h
  injection e with e
  have e2 : cs = cs' := by simpa using congrArg Array.toList e
  rw [e2]; exact h
theorem boxN11 {w : World} {b : Nat} {x0 x1 x2 x3 x4 x5 x6 x7 x8 x9 x10 : Value} {T : TypeId} (h : w.heap[b]? = some (.cells #[x0, x1, x2, x3, x4, x5, x6, x7, x8, x9, x10] T (0, 0))) :
    w.cell? ⟨b, 0, none⟩ = some x0 ∧ w.cell? ⟨b, 1, none⟩ = some x1 ∧ w.cell? ⟨b, 2, none⟩ = some x2 ∧ w.cell? ⟨b, 3, none⟩ = some x3 ∧ w.cell? ⟨b, 4, none⟩ = some x4 ∧ w.cell? ⟨b, 5, none⟩ = some x5 ∧ w.cell? ⟨b, 6, none⟩ = some x6 ∧ w.cell? ⟨b, 7, none⟩ = some x7 ∧ w.cell? ⟨b, 8, none⟩ = some x8 ∧ w.cell? ⟨b, 9, none⟩ = some x9 ∧ w.cell? ⟨b, 10, none⟩ = some x10 ∧ ∀ o, w.frozen? ⟨b, o, none⟩ = false := by
  refine ⟨?_, ?_, ?_, ?_, ?_, ?_, ?_, ?_, ?_, ?_, ?_, fun o => ?_⟩ <;> simp [World.cell?, World.frozen?, h]
end Go.Proofs.YtgephneppgcnlaaDoor
