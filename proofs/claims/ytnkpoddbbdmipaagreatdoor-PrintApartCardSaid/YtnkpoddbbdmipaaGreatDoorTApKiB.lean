/- . -/
import Derived.Below
import Derived.Test.YtnkpoddbbdmipaaGreatDoorTApEnD
import Derived.Test.YtnkpoddbbdmipaaGreatDoorTApRgA
import Derived.Test.YtnkpoddbbdmipaaGreatDoorProg
import Derived.Deep.Cut
import Derived.Deep.CutRange
import Derived.Deep.CutBlock
import Derived.Lib.Hide
import Derived.StillTailTactics
import Derived.Deep.QuietTactic
import Derived.BigQuiet
import Derived.Test.YtnkpoddbbdmipaaGreatDoorTApOwC
namespace Go.Proofs.YtnkpoddbbdmipaaGreatDoor
open Go Go.RowKit
set_option linter.unusedVariables false
set_option linter.unusedSimpArgs false
theorem keepc {w w' : World} {p : Addr} {v : Value} (ho : Only (fun _ => False) w w') (h : w.cell? p = some v) : w'.cell? p = some v := by
 rw [cell_keep ho (cell_lt h) (fun h => h)]; exact h
theorem rows_at {α : Type} {enc : α → List Cell} {w : World} {G : Nat → Prop} {n : Nat} {xs : List α} {v : Value} (h : CellAt w G (.row n (xs.map enc)) v) : ∃ a c, v = .slice a xs.length c ∧ xs.length ≤ c ∧ c ≤ 9223372036854775807 ∧
  ∀ i (hi : i < xs.length), ∃ g o cs, a = some ⟨g, o, none⟩ ∧ cs.length = n ∧ (∀ j u, cs[j]? = some u → w.cell? ⟨g, o + i * n + j, none⟩ = some u) ∧ CellsAt w G (enc xs[i]) cs := by
 obtain ⟨a, c, rfl, h1, h2, h3⟩ := h.rows; rw [List.length_map] at h1; refine ⟨a, c, by rw [List.length_map], h1, h2, fun i hi => ?_⟩
 obtain ⟨b, off, vs, rfl, -, -, k1, k2, k3⟩ := h3 i (by rw [List.length_map]; exact hi); rw [List.getElem_map] at k3; exact ⟨b, off, vs, rfl, k1, fun j u hu => k2 j u hu, k3⟩
theorem str_cell {w : World} {G : Nat → Prop} {s : List UInt8} {cs : List Value} (h : CellsAt w G [strC s] cs) : cs = [.string ⟨s.toArray⟩] := by
 obtain ⟨v, us, rfl, h1, h⟩ := cells_cons h; have := cells_nil h; subst this; have e1 := lit_eq h1; subst e1; rfl
theorem cells5_of {w : World} {g p : Nat} {x y z u v : Value} (h : ∀ j q, ([x, y, z, u, v] : List Value)[j]? = some q → w.cell? ⟨g, p + j, none⟩ = some q) : w.cell? ⟨g, p, none⟩ = some x ∧ w.cell? ⟨g, p + 1, none⟩ = some y ∧ w.cell? ⟨g, p + 2, none⟩ = some z ∧ w.cell? ⟨g, p + 3, none⟩ = some u ∧ w.cell? ⟨g, p + 4, none⟩ = some v :=
 ⟨h 0 x rfl, h 1 y rfl, h 2 z rfl, h 3 u rfl, h 4 v rfl⟩
theorem sizeOf_get {k : Nat} {n : Int} {s : List UInt8} {ks : List (List UInt8)} {vs : List VT} (j : Nat) (h : j < vs.length) : SizeOf.sizeOf vs[j] < SizeOf.sizeOf (VT.mk k n s ks vs) := by
 have := List.sizeOf_lt_of_mem (List.getElem_mem h); simp only [VT.mk.sizeOf_spec]; omega
theorem cat_list (a b : List UInt8) : (⟨a.toArray⟩ : ByteArray) ++ ⟨b.toArray⟩ = ⟨(a ++ b).toArray⟩ := by
 apply ByteArray.ext; simp
theorem Only.below {S : Nat → Prop} {w w' : World} (h : Only S w w') {B : Nat} (hB : B ≤ w.heap.size) (hS : ∀ k, k < B → ¬ S k) : Below B w w' :=
 ⟨h.os, h.tape, h.output, h.size, fun k hk => h.block k (by omega) (hS k hk)⟩
theorem Only.ofBelow {w w' : World} (h : Below w.heap.size w w') (S : Nat → Prop) : Only S w w' :=
 ⟨h.os, h.tape, h.output, h.size, fun k hk _ => h.block k hk⟩
theorem Only.alike {S : Nat → Prop} {a w w' : World} (h : Only S a w) (hk : w'.Alike w) (ht : w'.tape = w.tape) : Only S a w' :=
 ⟨hk.2.1.trans h.os, ht.trans h.tape, hk.2.2.trans h.output, by rw [hk.1]; exact h.size, fun k hk' hs => by rw [hk.1]; exact h.block k hk' hs⟩
end Go.Proofs.YtnkpoddbbdmipaaGreatDoor
