/- A part of a struct stored into its box. Over any program. -/
import Derived.Test.YtgephneppgcnlaaDoorOwn
namespace Go.Proofs.YtgephneppgcnlaaDoor
open Go Go.RowKit
set_option linter.unusedVariables false
set_option linter.unusedSimpArgs false
section
variable {P : Program} {ops : Array Oper} {Q : Exit → Act → World → Prop}
theorem wpList_store_part {w : World} {rest : List Oper} {o : Oper} {a : Act} (hgd : o.guard = none) (T : TypeId) (x y : Operand) (ho : o.op = .store T x y)
    (b k : Nat) (T' : TypeId) (pre old new post : List Value) (hx : a.eval x = .pointer (some ⟨b, k, none⟩)) (hy : a.eval y = .agg new.toArray) (hb : w.heap[b]? = some (.cells (pre ++ old ++ post).toArray T' (0, 0))) (hk : pre.length = k) (hl : old.length = new.length)
    (hi : (P.info? T).map (·.size) = some new.length) (h1 : ∀ v ∈ new, v.oneCell' = true)
    (h : ∀ w', w'.heap[b]? = some (.cells (pre ++ new ++ post).toArray T' (0, 0)) → Only (fun k => k = b) w w' → wpList P ops Q rest (a.put o.dst undef) w') : wpList P ops Q (o :: rest) a w := by
  refine wpList_store_mid hgd T x y ho b k new.toArray hx hy (fun j hj => ?_) (by simpa using hi) (all_oneCell_toArray h1) (h _ ?_ ?_)
  · have hj' : j < old.length := by simpa [hl] using hj
    constructor
    · have e : (pre ++ old ++ post)[k + j]? = some old[j] := by
        rw [List.append_assoc, List.getElem?_append_right (by omega), List.getElem?_append_left (by omega), show k + j - pre.length = j from by omega]
        exact List.getElem?_eq_getElem hj'
      have e2 : k + j < (pre ++ old ++ post).length := (List.getElem?_eq_some_iff.1 e).1
      have e3 : w.cell? ⟨b, k + j, none⟩ = some old[j] := by
        simp only [World.cell?, hb]
        simpa using e
      rw [e3]; rfl
    · simp [World.frozen?, hb]
  · have := setCells_heap new w b pre old post T' (0, 0) hl hb
    rw [hk] at this
    simpa using this
  · simpa using setCells_only new w b k
end
end Go.Proofs.YtgephneppgcnlaaDoor
