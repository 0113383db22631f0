/- Arguments that came in, opened: api.Value, and slices of whatever has a reading. -/
import Derived.Test.YtoojnpafcdaflaaRows
import Derived.Test.YtoojnpafcdaflaaReads
import Derived.Test.YtoojnpafcdaflaaVal
namespace Go.Proofs.Ytoojnpafcdaflaa
open Go Go.RowKit
set_option linter.unusedVariables false
set_option linter.unusedSimpArgs false
variable {H : Type} {enc : TypeId × Value → H} {P : Program}

/-- A slice that came in: its elements read at a lesser depth. -/
theorem slice_of_trod {w : World} {t e : TypeId} {fuel : Nat} {cs : List Value} {x : DataW H × List MemPlace} {size : Nat}
    (ht : P.underlying t = some (.slice e)) (hE : P.cellsOf e = size) (hs : 0 < size)
    (h : DataW.trod enc P w 0 (fun _ => true) true fuel t cs = some x) :
    ∃ a len cap, cs = [.slice a len cap] ∧ len ≤ cap ∧ cap ≤ maxLen ∧
      (0 < len → ∃ b off n, a = some ⟨b, off, none⟩ ∧ fuel = n + 1 ∧ b < w.heap.size ∧ ∀ i, i < len → ∃ cs' y, cs'.length = size ∧ w.rangeAt b (off + i * size) cs' ∧ DataW.trod enc P w 0 (fun _ => true) true n e cs' = some y) := by
  rcases DataW.trod_slice ht h with ⟨rfl, _⟩ | ⟨a, len, cap, elems, rest, n, hn, rfl, _, hb, hl, hm, hlen, hel, _, _⟩
  · exact ⟨none, 0, 0, rfl, Nat.le_refl _, Nat.zero_le _, fun h => absurd h (by decide)⟩
  · refine ⟨some a, len, cap, rfl, hl, hm, fun hp => ?_⟩
    have hget : ∀ i, i < len → ∃ cs' y, w.cells? 0 (a.add (i * P.cellsOf e)) (P.cellsOf e) = some cs' ∧ DataW.trod enc P w 0 (fun _ => true) true n e cs' = some y := by
      intro i hi
      have := hel i hi
      rw [List.getElem?_eq_getElem (by omega)] at this
      obtain ⟨cs', h1, h2⟩ := Option.bind_eq_some_iff.1 this
      exact ⟨cs', _, h1, h2⟩
    obtain ⟨b, off, spot⟩ := a
    have hsp : spot = none := by
      obtain ⟨cs', _, h1, _⟩ := hget 0 hp
      obtain ⟨hlen, hcell⟩ := (World.cells?_some h1).2
      have hc0 := hcell 0 (by rw [hE]; exact hs)
      have hx : ∃ x, cs'[0]? = some x := ⟨cs'[0]'(by rw [hlen, hE]; exact hs), List.getElem?_eq_getElem _⟩
      obtain ⟨x, hx⟩ := hx
      rw [hx] at hc0
      simpa [Addr.add] using World.cell?_spot hc0
    subst hsp
    refine ⟨b, off, n, rfl, hn, ?_, fun i hi => ?_⟩
    · obtain ⟨cs', _, h1, _⟩ := hget 0 hp
      have hblk := World.cells?_block h1 (by rw [hE]; exact hs)
      rw [addr_add] at hblk; exact hblk
    · obtain ⟨cs', y, h1, h2⟩ := hget i hi
      obtain ⟨hlen, hcell⟩ := (World.cells?_some h1).2
      rw [hE] at hlen hcell
      refine ⟨cs', y, hlen, fun j v hv => ?_, h2⟩
      have hj : j < size := by have := (List.getElem?_eq_some_iff.1 hv).1; omega
      have := hcell j hj
      rw [Go.Deep.add_add, addr_add, hv] at this
      rw [← this, Nat.add_assoc]
theorem str_cell {w : World} {n : Nat} {t : TypeId} {cs : List Value} {x : DataW H × List MemPlace} (ht : P.underlying t = some .string) (h : DataW.trod enc P w 0 (fun _ => true) true n t cs = some x) :
    ∃ s : List UInt8, cs = [strV s] ∧ s.length ≤ maxLen := by
  obtain ⟨s, rfl, _, hs⟩ := DataW.trod_string ht h
  refine ⟨s.data.toList, by simp [strV], ?_⟩
  rw [Array.length_toList]; exact hs
theorem int_cell {w : World} {n : Nat} {t : TypeId} {k : IntKind} {cs : List Value} {x : DataW H × List MemPlace} (ht : P.underlying t = some (.int k)) (h : DataW.trod enc P w 0 (fun _ => true) true n t cs = some x) :
    ∃ z : Int, cs = [.int k z] ∧ k.min ≤ z ∧ z ≤ k.max := by
  obtain ⟨z, rfl, _, hz⟩ := DataW.trod_int ht h
  refine ⟨z, rfl, ?_⟩
  simp [Lit.wf] at hz
  exact hz
/-- A row of texts out of such a slice. -/
theorem texts_row {w : World} {b off : Nat} : ∀ (len : Nat), (∀ i, i < len → ∃ s : List UInt8, w.cell? ⟨b, off + i, none⟩ = some (strV s) ∧ s.length ≤ maxLen) → ∃ ks : List (List UInt8), ks.length = len ∧ w.rangeAt b off (ks.map strV) ∧ ∀ s ∈ ks, s.length ≤ maxLen
  | 0, _ => ⟨[], rfl, (fun j v hv => by cases hv), (fun s hs => by cases hs)⟩
  | len + 1, h => by
    obtain ⟨ks, h1, h2, h3⟩ := texts_row len (fun i hi => h i (by omega))
    obtain ⟨s, h4, h5⟩ := h len (by omega)
    refine ⟨ks ++ [s], by simp [h1], fun j v hv => ?_, fun q hq => ?_⟩
    · rw [List.map_append, List.getElem?_append] at hv
      split at hv
      · exact h2 j v hv
      · rename_i hj
        simp at hj
        have hj2 : j = len := by
          have := (List.getElem?_eq_some_iff.1 hv).1
          simp at this; omega
        subst hj2
        simp [h1] at hv
        subst hv; exact h4
    · rcases List.mem_append.1 hq with hq | hq
      · exact h3 q hq
      · simp at hq; subst hq; exact h5
theorem vals_row {w : World} {G : Nat → Prop} {b : Nat} : ∀ (len off : Nat), (∀ i, i < len → ∃ cs, cs.length = 5 ∧ w.rangeAt b (off + i * 5) cs ∧ ∃ t, ValAt w G t cs) → ∃ vs : List VT, vs.length = len ∧ ValsAt w G vs b off
  | 0, _, _ => ⟨[], rfl, trivial⟩
  | len + 1, off, h => by
    obtain ⟨cs, h1, h2, t, h3⟩ := h 0 (by omega)
    rw [Nat.zero_mul, Nat.add_zero] at h2
    obtain ⟨vs, h4, h5⟩ := vals_row len (off + 5) (fun i hi => by
      have := h (i + 1) (by omega)
      rw [show off + (i + 1) * 5 = off + 5 + i * 5 from by omega] at this
      exact this)
    exact ⟨t :: vs, by simp [h4], ⟨cs, h1, h2, h3⟩, h5⟩
theorem list5 {α : Type} {cs : List α} (h : cs.length = 5) : ∃ a b c d e, cs = [a, b, c, d, e] := by
  match cs, h with
  | [a, b, c, d, e], _ => exact ⟨a, b, c, d, e, rfl⟩
theorem agg_of_cells {v : Value} {cs : List Value} (h : v.cells.toList = cs) (hl : cs.length ≠ 1) : v = .agg cs.toArray := by
  cases v with
  | agg a => simp [Value.cells] at h; subst h; simp
  | _ => simp [Value.cells] at h; subst h; simp at hl
theorem value_cells : Try.prog.cellsOf 35 = 5 := by kernel_rfl
theorem val_of_trod (w : World) : ∀ (fuel : Nat) (cs : List Value) (x : DataW H × List MemPlace), DataW.trod enc Try.prog w 0 (fun _ => true) true fuel 35 cs = some x → ∃ t, ValAt w (fun q => q < w.heap.size) t cs := by
  intro fuel
  induction fuel using Nat.strongRecOn with
  | _ fuel ih =>
    intro cs x hx
    obtain ⟨xs, m, rfl, rfl, hl, hxl, hf⟩ := DataW.trod_struct Try.underlying35 hx
    obtain ⟨e0, e1, e2, e3, e4, rfl⟩ := list5 (hl.trans value_cells)
    obtain ⟨y0, y1, y2, y3, y4, rfl⟩ := list5 (hxl.trans rfl)
    have f0 := field_at hf 0 5 0 1 rfl (by kernel_rfl)
    have f1 := field_at hf 1 2 1 1 rfl (by kernel_rfl)
    have f2 := field_at hf 2 9 2 1 rfl (by kernel_rfl)
    have f3 := field_at hf 3 32 3 1 rfl (by kernel_rfl)
    have f4 := field_at hf 4 33 4 1 rfl (by kernel_rfl)
    obtain ⟨k, g0, k0, k1⟩ := int_cell Try.underlying5 f0
    obtain ⟨n, g1, n0, n1⟩ := int_cell Try.underlying2 f1
    obtain ⟨s, g2, s1⟩ := str_cell Try.underlying9 f2
    obtain ⟨ak, lk, ck, g3, lk1, ck1, hK⟩ := slice_of_trod (size := 1) Try.underlying32 (by kernel_rfl) (by decide) f3
    obtain ⟨av, lv, cv, g4, lv1, cv1, hV⟩ := slice_of_trod Try.underlying33 value_cells (by decide) f4
    simp at g0 g1 g2 g3 g4
    subst g0; subst g1; subst g2; subst g3; subst g4
    have hks : ∃ ks : List (List UInt8), ks.length = lk ∧ (0 < lk → ∃ b off, ak = some ⟨b, off, none⟩ ∧ b < w.heap.size ∧ w.rangeAt b off (ks.map strV)) := by
      rcases Nat.eq_zero_or_pos lk with h0 | h0
      · exact ⟨[], by rw [h0]; rfl, fun h => by omega⟩
      · obtain ⟨b, off, n, rfl, hn, hb, hi⟩ := hK h0
        obtain ⟨ks, h1, h2, _⟩ := texts_row (w := w) (b := b) (off := off) lk (fun i hi' => by
          obtain ⟨cs', y, q1, q2, q3⟩ := hi i hi'
          obtain ⟨s, rfl, q4⟩ := str_cell Try.underlying9 q3
          have := q2 0 _ rfl
          rw [Nat.mul_one] at this
          exact ⟨s, this, q4⟩)
        exact ⟨ks, h1, fun _ => ⟨b, off, rfl, hb, h2⟩⟩
    have hvs : ∃ vs : List VT, vs.length = lv ∧ (0 < lv → ∃ b off, av = some ⟨b, off, none⟩ ∧ b < w.heap.size ∧ ValsAt w (fun q => q < w.heap.size) vs b off) := by
      rcases Nat.eq_zero_or_pos lv with h0 | h0
      · exact ⟨[], by rw [h0]; rfl, fun h => by omega⟩
      · obtain ⟨b, off, n, rfl, hn, hb, hi⟩ := hV h0
        obtain ⟨vs, h1, h2⟩ := vals_row (w := w) (G := fun q => q < w.heap.size) (b := b) lv off (fun i hi' => by
          obtain ⟨cs', y, q1, q2, q3⟩ := hi i hi'
          exact ⟨cs', q1, q2, ih n (by omega) cs' y q3⟩)
        exact ⟨vs, h1, fun _ => ⟨b, off, rfl, hb, h2⟩⟩
    obtain ⟨ks, rfl, hks⟩ := hks
    obtain ⟨vs, rfl, hvs⟩ := hvs
    simp [IntKind.min, IntKind.max, IntKind.signed, IntKind.bits] at k0 k1 n0 n1
    refine ⟨.mk k.toNat n s ks vs, ?_⟩
    simp only [ValAt]
    refine ⟨ak, ck, av, cv, by rw [Int.toNat_of_nonneg k0]; rfl, by omega, by omega, by unfold maxLen at s1; omega, ⟨lk1, by unfold maxLen at ck1; omega⟩, ⟨lv1, by unfold maxLen at cv1; omega⟩, fun hp => ?_, fun hp => ?_⟩
    · obtain ⟨b, off, h1, h2, h3⟩ := hks hp
      exact ⟨b, off, h1, h2, h2, h3⟩
    · obtain ⟨b, off, h1, h2, h3⟩ := hvs hp
      exact ⟨b, off, h1, h2, h2, h3⟩
theorem value_of_Trod {w : World} {v : Value} {d : DataW H} {p : List MemPlace} (h : DataW.Trod enc Try.prog w 0 (fun _ => true) true 35 v d p) :
    ∃ t cs, v = .agg cs.toArray ∧ ValAt w (fun q => q < w.heap.size) t cs := by
  obtain ⟨fuel, hf⟩ := h
  obtain ⟨t, ht⟩ := val_of_trod w fuel _ _ hf
  refine ⟨t, _, agg_of_cells rfl ?_, ht⟩
  obtain ⟨k, n, s, ks, vs⟩ := t
  simp only [ValAt] at ht
  obtain ⟨ak, ck, av, cv, e, _⟩ := ht
  rw [e]; simp
end Go.Proofs.Ytoojnpafcdaflaa
