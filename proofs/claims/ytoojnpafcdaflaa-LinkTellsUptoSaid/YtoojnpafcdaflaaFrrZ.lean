/- Form: columbary/columbaryref03.Form, of the kinds all. -/
import Derived.Test.YtoojnpafcdaflaaFrrA
import Derived.Test.YtoojnpafcdaflaaFrrB
import Derived.Test.YtoojnpafcdaflaaFrrC
import Derived.Test.YtoojnpafcdaflaaFrrD
namespace Go.Proofs.Ytoojnpafcdaflaa
open Go Go.RowKit
set_option linter.unusedVariables false
set_option linter.unusedSimpArgs false

theorem rForm : ∀ z, FormIH 24 z
  | 0 => fun t ht => by exfalso; obtain ⟨k, n, s, ks, vs⟩ := t; simp only [VT.mk.sizeOf_spec] at ht; omega
  | z + 1 => fun t ht G w cs d hv hd => by
    have ih := rForm z
    have h : (t.kind = 0 ∨ t.kind = 1 ∨ t.kind = 3) ∨ (t.kind = 2 ∨ t.kind = 4) ∨ (t.kind = 7 ∨ t.kind = 8 ∨ 9 ≤ t.kind) ∨ (t.kind = 5 ∨ t.kind = 6) := by omega
    rcases h with h | h | h | h
    · exact rForm_A z ih t ht h G w cs d hv hd
    · exact rForm_B z ih t ht h G w cs d hv hd
    · exact rForm_C z ih t ht h G w cs d hv hd
    · exact rForm_D z ih t ht h G w cs d hv hd
end Go.Proofs.Ytoojnpafcdaflaa
