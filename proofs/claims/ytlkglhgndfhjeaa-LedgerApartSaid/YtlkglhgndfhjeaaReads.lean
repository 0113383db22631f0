/- Arguments that came in, opened: slices of whatever is read. Over no program. -/
import Derived.Test.YtlkglhgndfhjeaaKit
import Derived.Deep.Slices
import Derived.ChangeArms
import Derived.ProofKit
import Derived.DataReads
import Derived.ChangeOld
namespace Go.Proofs.Ytlkglhgndfhjeaa
open Go Go.RowKit
set_option linter.unusedVariables false
set_option linter.unusedSimpArgs false

/-- v is a slice of len things of 'size' cells each, in blocks below B; R is true of each one's cells. -/
def Elems (w : World) (B size : Nat) (R : List Value → Prop) (v : Value) (len : Nat) : Prop :=
  ∃ a cap, v = .slice a len cap ∧ len ≤ cap ∧ cap ≤ 9223372036854775807 ∧ cap ≤ maxLen ∧
    ∀ i, i < len → ∃ b off cs, a = some ⟨b, off, none⟩ ∧ b < B ∧ cs.length = size ∧ (∀ j, j < size → w.cell? ⟨b, off + (i * size + j), none⟩ = cs[j]?) ∧ R cs

variable {H : Type} {enc : TypeId × Value → H} {P : Program}

theorem elems_of_trod {w : World} {t e : TypeId} {v : Value} {d : DataW H} {p : List MemPlace} {size : Nat} {R : List Value → Prop}
    (ht : P.underlying t = some (.slice e)) (hE : P.cellsOf e = size) (hs : 0 < size) (hv : ∃ a len cap, v = .slice a len cap)
    (h : DataW.Trod enc P w 0 (fun _ => true) true t v d p) (hR : ∀ n cs x, DataW.trod enc P w 0 (fun _ => true) true n e cs = some x → R cs) :
    ∃ len, Elems w w.heap.size size R v len := by
  obtain ⟨a0, len0, cap0, rfl⟩ := hv
  obtain ⟨fuel, hf⟩ := h
  rcases Go.Deep.open_slice ht hf with ⟨hcs, _⟩ | ⟨a, len, cap, m, n, D, Pl, hcs, hb, hl, hc, hm, _, hel⟩
  · simp [Value.cells] at hcs
    obtain ⟨rfl, rfl, rfl⟩ := hcs
    exact ⟨0, _, _, rfl, Nat.le_refl _, by omega, by unfold maxLen; omega, fun i hi => by omega⟩
  · simp [Value.cells] at hcs
    obtain ⟨rfl, rfl, rfl⟩ := hcs
    refine ⟨_, _, _, rfl, hl, by unfold maxLen at hc; omega, hc, fun i hi => ?_⟩
    have hm' : m = cap0 := by simpa using hm
    obtain ⟨b, off, spot⟩ := a
    have hsp : spot = none := by
      obtain ⟨cs', h1, _⟩ := hel 0 (by omega)
      obtain ⟨hlen, hcell⟩ := (World.cells?_some h1).2
      have hc0 := hcell 0 (by rw [hE]; exact hs)
      have hx : ∃ x, cs'[0]? = some x := ⟨cs'[0]'(by rw [hlen, hE]; exact hs), List.getElem?_eq_getElem _⟩
      obtain ⟨x, hx⟩ := hx
      rw [hx] at hc0
      simpa [Addr.add] using World.cell?_spot hc0
    subst hsp
    obtain ⟨cs', h1, h2⟩ := hel i (by omega)
    have hblk := World.cells?_block h1 (by rw [hE]; exact hs)
    obtain ⟨hlen, hcell⟩ := (World.cells?_some h1).2
    rw [hE] at h1 hlen hcell
    refine ⟨b, off, cs', rfl, ?_, hlen, fun j hj => ?_, hR _ _ _ h2⟩
    · rw [addr_add] at hblk; exact hblk
    · have := hcell j hj
      rw [Go.Deep.add_add] at this
      rw [addr_add] at this
      exact this

theorem field_at {w : World} {fs : Array Field} {n : Nat} {cs : List Value} {xs : List (DataW H × List MemPlace)}
    (hf : ∀ (i : Nat) (f : Field), fs[i]? = some f → DataW.trod enc P w 0 (fun _ => true) true n f.type (List.take (P.cellsOf f.type) (List.drop f.offset cs)) = xs[i]?)
    (i t o c : Nat) (h : (fs[i]?).map (fun f => (f.type, f.offset)) = some (t, o)) (hc : P.cellsOf t = c) :
    DataW.trod enc P w 0 (fun _ => true) true n t (List.take c (List.drop o cs)) = xs[i]? := by
  cases hg : fs[i]? with
  | none => rw [hg] at h; cases h
  | some f =>
    rw [hg] at h
    simp only [Option.map_some, Option.some.injEq, Prod.mk.injEq] at h
    obtain ⟨rfl, rfl⟩ := h
    rw [← hc]; exact hf i f hg

/-- A string's cell; an integer's. -/
def IsStr (cs : List Value) : Prop := ∃ s : ByteArray, cs = [.string s] ∧ s.size ≤ maxLen
theorem strs_of_trod {w : World} {t e : TypeId} {v : Value} {d : DataW H} {p : List MemPlace} (ht : P.underlying t = some (.slice e)) (he : P.underlying e = some .string) (hE : P.cellsOf e = 1)
    (hv : ∃ a len cap, v = .slice a len cap) (h : DataW.Trod enc P w 0 (fun _ => true) true t v d p) : ∃ len, Elems w w.heap.size 1 IsStr v len :=
  elems_of_trod ht hE (by omega) hv h (fun n cs x hx => by
    obtain ⟨s, rfl, _, hs⟩ := DataW.trod_string he hx
    exact ⟨s, rfl, hs⟩)
end Go.Proofs.Ytlkglhgndfhjeaa
