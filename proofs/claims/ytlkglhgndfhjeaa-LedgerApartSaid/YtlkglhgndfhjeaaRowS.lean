/- Rows of things of several cells each, told thing by thing; ranges of cells in the midst of a block. Over no program. -/
import Derived.Test.YtlkglhgndfhjeaaCut
import Derived.Deep.MidRow
namespace Go.Proofs.Ytlkglhgndfhjeaa
open Go Go.RowKit
set_option linter.unusedVariables false
set_option linter.unusedSimpArgs false

theorem flat_len {α : Type} {size : Nat} : ∀ {l : List (List α)}, (∀ x ∈ l, x.length = size) → l.flatten.length = l.length * size
  | [], _ => by simp
  | x :: l, h => by
    rw [List.flatten_cons, List.length_append, flat_len (fun y hy => h y (List.mem_cons_of_mem _ hy)), h x (List.mem_cons_self), List.length_cons, Nat.succ_mul]; omega
theorem flat_drop {α : Type} {size : Nat} : ∀ {l : List (List α)} (k : Nat), (∀ x ∈ l, x.length = size) → (l.drop k).flatten = l.flatten.drop (k * size)
  | l, 0, _ => by simp
  | [], k + 1, _ => by simp
  | x :: l, k + 1, h => by
    rw [List.drop_succ_cons, flat_drop k (fun y hy => h y (List.mem_cons_of_mem _ hy)), List.flatten_cons, Nat.succ_mul, List.drop_append, h x (List.mem_cons_self)]
    have hx : List.drop (k * size + size) x = [] := List.drop_eq_nil_of_le (by rw [h x (List.mem_cons_self)]; omega)
    rw [hx, List.nil_append, Nat.add_sub_cancel]
theorem flat_take {α : Type} {size : Nat} : ∀ {l : List (List α)} (k : Nat), (∀ x ∈ l, x.length = size) → (l.take k).flatten = l.flatten.take (k * size)
  | l, 0, _ => by simp
  | [], k + 1, _ => by simp
  | x :: l, k + 1, h => by
    rw [List.take_succ_cons, List.flatten_cons, List.flatten_cons, flat_take k (fun y hy => h y (List.mem_cons_of_mem _ hy)), Nat.succ_mul, List.take_append, h x (List.mem_cons_self)]
    have hx : List.take (k * size + size) x = x := List.take_of_length_le (by rw [h x (List.mem_cons_self)]; omega)
    rw [hx, Nat.add_sub_cancel]
theorem flat_get {α : Type} {size : Nat} {l : List (List α)} (h : ∀ x ∈ l, x.length = size) {k : Nat} (hk : k < l.length) : (l.flatten.drop (k * size)).take size = l[k] := by
  rw [← flat_drop k h, List.drop_eq_getElem_cons hk, List.flatten_cons, List.take_append, h _ (List.getElem_mem _)]
  have hx : List.take size l[k] = l[k] := List.take_of_length_le (by rw [h _ (List.getElem_mem _)]; exact Nat.le_refl _)
  rw [hx]; simp

theorem flat_set_get {α : Type} {size : Nat} : ∀ {l : List (List α)} (i : Nat) (x : List α), (∀ y ∈ l, y.length = size) → x.length = size → i < l.length → ∀ j, (l.set i x).flatten[j]? = if i * size ≤ j ∧ j < i * size + size then x[j - i * size]? else l.flatten[j]?
  | [], i, x, _, _, hi, _ => by simp at hi
  | a :: l, 0, x, h, hx, _, j => by
    have ha := h a List.mem_cons_self
    simp only [List.set_cons_zero, List.flatten_cons, Nat.zero_mul, Nat.zero_add, Nat.sub_zero, Nat.zero_le, true_and]
    by_cases hj : j < size
    · rw [if_pos hj, List.getElem?_append_left (by omega)]
    · rw [if_neg hj, List.getElem?_append_right (by omega), List.getElem?_append_right (by omega), ha, hx]
  | a :: l, i + 1, x, h, hx, hi, j => by
    have ha := h a List.mem_cons_self
    simp only [List.set_cons_succ, List.flatten_cons, Nat.succ_mul]
    by_cases hj : j < size
    · rw [if_neg (by omega), List.getElem?_append_left (by omega), List.getElem?_append_left (by omega)]
    · rw [List.getElem?_append_right (by omega), List.getElem?_append_right (by omega), ha, flat_set_get i x (fun y hy => h y (List.mem_cons_of_mem _ hy)) hx (by simpa using hi)]
      have e : j - size - i * size = j - (i * size + size) := by omega
      rw [e]
      by_cases hc : i * size ≤ j - size ∧ j - size < i * size + size
      · rw [if_pos hc, if_pos (by omega)]
      · rw [if_neg hc, if_neg (by omega)]

theorem cell_only {S : Nat → Prop} {w w' : World} (h : Only S w w') {a : Addr} (ha : a.block < w.heap.size) (hs : ¬ S a.block) : w'.cell? a = w.cell? a := by
  unfold World.cell?; rw [h.block _ ha hs]
theorem frozen_only {S : Nat → Prop} {w w' : World} (h : Only S w w') {a : Addr} (ha : a.block < w.heap.size) (hs : ¬ S a.block) : w'.frozen? a = w.frozen? a := by
  unfold World.frozen?; rw [h.block _ ha hs]
/-- v is a slice of the things 'items' (each of 'size' cells) that the call owns from block 'base' on. -/
def RowS (w : World) (base : Nat) (e : TypeId) (size : Nat) (v : Value) (items : List (List Value)) : Prop :=
  (∀ x ∈ items, x.length = size) ∧ Row w base e size v items.length items.flatten

theorem RowS.only {S : Nat → Prop} {w w' : World} {base : Nat} {e : TypeId} {size : Nat} {v : Value} {items : List (List Value)} (h : RowS w base e size v items) (ho : Only S w w') (hS : ∀ k, base ≤ k → v.ownBlock = some k → ¬ S k) : RowS w' base e size v items :=
  ⟨h.1, h.2.only ho hS⟩
theorem RowS.nil (w : World) (base : Nat) (e : TypeId) (size : Nat) : RowS w base e size (.slice none 0 0) [] := ⟨by simp, Row.nil _ _ _ _⟩
theorem RowS.cutL {P : Program} {w : World} {base : Nat} {t e : TypeId} {size : Nat} {a : Option Addr} {n cap : Nat} {items : List (List Value)} (h : RowS w base e size (.slice a n cap) items) (hn : items.length = n) (ht : P.underlying t = some (.slice e)) (hz : (P.info? e).map (·.size) = some size) (k : IntKind) (lo : Nat) (hlo : lo ≤ n) :
    ∃ a' c', (∀ w1, (Instr.slice t (.slice a n cap) (some (.int k lo)) none none).run P w1 = .ok (.slice a' (n - lo) c') w1) ∧ RowS w base e size (.slice a' (n - lo) c') (items.drop lo) ∧ (∀ g, (Value.slice a' (n - lo) c').ownBlock = some g → (Value.slice a n cap).ownBlock = some g) := by
  subst hn
  obtain ⟨v', h1, h2, h3⟩ := Row.cutL h.2 ht hz k lo hlo
  obtain ⟨a', c', rfl, _⟩ := h2.slice
  exact ⟨a', c', h1, ⟨fun x hx => h.1 x (List.mem_of_mem_drop hx), by rw [flat_drop lo h.1, List.length_drop]; exact h2⟩, h3⟩
theorem RowS.cutLH {P : Program} {w : World} {base : Nat} {t e : TypeId} {size : Nat} {a : Option Addr} {n cap : Nat} {items : List (List Value)} (h : RowS w base e size (.slice a n cap) items) (hn : items.length = n) (ht : P.underlying t = some (.slice e)) (hz : (P.info? e).map (·.size) = some size) (k k' : IntKind) (lo hi : Nat) (hlo : lo ≤ hi) (hhi : hi ≤ n) (hnc : n ≤ cap) :
    ∃ a' c', (∀ w1, (Instr.slice t (.slice a n cap) (some (.int k lo)) (some (.int k' hi)) none).run P w1 = .ok (.slice a' (hi - lo) c') w1) ∧ RowS w base e size (.slice a' (hi - lo) c') ((items.drop lo).take (hi - lo)) ∧ (∀ g, (Value.slice a' (hi - lo) c').ownBlock = some g → (Value.slice a n cap).ownBlock = some g) := by
  subst hn
  obtain ⟨v', h1, h2, h3⟩ := Row.cutLH h.2 ht hz k k' lo hi hlo hhi hnc
  obtain ⟨a', c', rfl, _⟩ := h2.slice
  exact ⟨a', c', h1, ⟨fun x hx => h.1 x (List.mem_of_mem_drop (List.mem_of_mem_take hx)), by rw [flat_take _ (fun x hx => h.1 x (List.mem_of_mem_drop hx)), flat_drop lo h.1, List.length_take, List.length_drop, Nat.min_eq_left (by omega)]; exact h2⟩, h3⟩
/-- Thing k lies there. -/
theorem RowS.at_ {w : World} {base : Nat} {e : TypeId} {size : Nat} {a : Option Addr} {n cap : Nat} {items : List (List Value)} (h : RowS w base e size (.slice a n cap) items) {k : Nat} (hk : k < items.length) (hs : 0 < size) :
    ∃ g off, a = some ⟨g, off, none⟩ ∧ base ≤ g ∧ g < w.heap.size ∧ w.rangeAt g (off + k * size) items[k] ∧ (∀ j, w.frozen? ⟨g, j, none⟩ = false) := by
  obtain ⟨h0, h1, h2⟩ := h
  rcases h2 with ⟨hv, hn⟩ | ⟨g, off, c, cur, hv, hg, hh, h3, h4, h5, h6⟩
  · omega
  · cases hv
    refine ⟨g, off, rfl, hg, (Array.getElem?_eq_some_iff.1 hh).1, ?_, fun j => by simp [World.frozen?, hh]⟩
    intro j v hj
    have hl := h0 _ (List.getElem_mem hk)
    have hjl : j < size := by rw [← hl]; exact (List.getElem?_eq_some_iff.1 hj).1
    have hle : (k + 1) * size ≤ items.length * size := Nat.mul_le_mul_right _ hk
    rw [Nat.succ_mul] at hle
    simp only [World.cell?, hh]
    have e1 := h6 (k * size + j) (by omega)
    have e2 : items[k][j]? = items.flatten[k * size + j]? := by
      rw [← flat_get h0 hk, List.getElem?_take, if_pos hjl, List.getElem?_drop]
    rw [Nat.add_assoc, ← hj, e2]
    exact e1
end Go.Proofs.Ytlkglhgndfhjeaa
