/- Lists of things in memory. (Out of XLrw.) -/
import Derived.Test.YtlkglhgndfhjeaaMkB
namespace Go.Proofs.Ytlkglhgndfhjeaa
open Go Go.RowKit
set_option linter.unusedVariables false
set_option linter.unusedSimpArgs false
set_option maxRecDepth 100000

section
variable {α : Type}
/-- Things of n cells each, one behind the other. -/
def RowAt (n : Nat) (P : World → (Nat → Prop) → α → List Value → Prop) (w : World) (G : Nat → Prop) : List α → Nat → Nat → Prop
  | [], _, _ => True
  | x :: xs, b, off => (∃ cs, cs.length = n ∧ w.rangeAt b off cs ∧ P w G x cs) ∧ RowAt n P w G xs b (off + n)
def Keeps (P : World → (Nat → Prop) → α → List Value → Prop) : Prop := ∀ (S G : Nat → Prop) (w w' : World) (x : α) (cs : List Value), Only S w w' → (∀ k, G k → ¬ S k) → P w G x cs → P w' G x cs
def Weakens (P : World → (Nat → Prop) → α → List Value → Prop) : Prop := ∀ (G G' : Nat → Prop) (w : World) (x : α) (cs : List Value), (∀ q, q < w.heap.size → G q → G' q) → P w G x cs → P w G' x cs
theorem rowAt_get {n : Nat} {P : World → (Nat → Prop) → α → List Value → Prop} {w : World} {G : Nat → Prop} : ∀ {xs : List α} {b off : Nat}, RowAt n P w G xs b off → ∀ (i : Nat) (h : i < xs.length), ∃ cs, cs.length = n ∧ w.rangeAt b (off + i * n) cs ∧ P w G xs[i] cs
  | [], _, _, _, i, h => absurd h (by simp)
  | x :: xs, b, off, hv, 0, _ => by simpa using hv.1
  | x :: xs, b, off, hv, i + 1, h => by
    have := rowAt_get (xs := xs) hv.2 i (by simpa using h)
    rw [show off + (i + 1) * n = off + n + i * n from by rw [Nat.add_mul]; omega]; exact this
theorem rowAt_only {n : Nat} {P : World → (Nat → Prop) → α → List Value → Prop} (hP : Keeps P) {S G : Nat → Prop} {w w' : World} (ho : Only S w w') (hS : ∀ k, G k → ¬ S k) : ∀ (xs : List α) (b off : Nat), b < w.heap.size → G b → RowAt n P w G xs b off → RowAt n P w' G xs b off
  | [], _, _, _, _, _ => trivial
  | x :: xs, b, off, hb, hg, ⟨⟨cs, h1, h2, h3⟩, h4⟩ => ⟨⟨cs, h1, range_only h2 hb ho (hS b hg), hP S G w w' x cs ho hS h3⟩, rowAt_only hP ho hS xs b (off + n) hb hg h4⟩
theorem rowAt_weaken {n : Nat} {P : World → (Nat → Prop) → α → List Value → Prop} (hP : Weakens P) {G G' : Nat → Prop} {w : World} (h : ∀ q, q < w.heap.size → G q → G' q) : ∀ (xs : List α) (b off : Nat), RowAt n P w G xs b off → RowAt n P w G' xs b off
  | [], _, _, _ => trivial
  | x :: xs, b, off, ⟨⟨cs, h1, h2, h3⟩, h4⟩ => ⟨⟨cs, h1, h2, hP G G' w x cs h h3⟩, rowAt_weaken hP h xs b (off + n) h4⟩
def ListAt (n : Nat) (P : World → (Nat → Prop) → α → List Value → Prop) (w : World) (G : Nat → Prop) (a : Option Addr) (xs : List α) : Prop :=
  0 < xs.length → ∃ b off, a = some ⟨b, off, none⟩ ∧ G b ∧ b < w.heap.size ∧ RowAt n P w G xs b off
theorem ListAt.only {n : Nat} {P : World → (Nat → Prop) → α → List Value → Prop} (hP : Keeps P) {S G : Nat → Prop} {w w' : World} {a : Option Addr} {xs : List α} (h : ListAt n P w G a xs) (ho : Only S w w') (hS : ∀ k, G k → ¬ S k) : ListAt n P w' G a xs := fun hp => by
  obtain ⟨b, off, e, hg, hb, hr⟩ := h hp
  exact ⟨b, off, e, hg, Nat.lt_of_lt_of_le hb ho.size, rowAt_only hP ho hS xs b off hb hg hr⟩
theorem ListAt.weaken {n : Nat} {P : World → (Nat → Prop) → α → List Value → Prop} (hP : Weakens P) {G G' : Nat → Prop} {w : World} {a : Option Addr} {xs : List α} (h : ListAt n P w G a xs) (hG : ∀ q, q < w.heap.size → G q → G' q) : ListAt n P w G' a xs := fun hp => by
  obtain ⟨b, off, e, hg, hb, hr⟩ := h hp
  exact ⟨b, off, e, hG b hb hg, hb, rowAt_weaken hP hG xs b off hr⟩
theorem ListAt.get {n : Nat} {P : World → (Nat → Prop) → α → List Value → Prop} {w : World} {G : Nat → Prop} {a : Option Addr} {xs : List α} (h : ListAt n P w G a xs) (i : Nat) (hi : i < xs.length) : ∃ b off cs, a = some ⟨b, off, none⟩ ∧ G b ∧ b < w.heap.size ∧ cs.length = n ∧ w.rangeAt b (off + i * n) cs ∧ P w G xs[i] cs := by
  obtain ⟨b, off, e, hg, hb, hr⟩ := h (by omega)
  obtain ⟨cs, h1, h2, h3⟩ := rowAt_get hr i hi
  exact ⟨b, off, cs, e, hg, hb, h1, h2, h3⟩
theorem ListAt.nil {n : Nat} {P : World → (Nat → Prop) → α → List Value → Prop} {w : World} {G : Nat → Prop} {a : Option Addr} : ListAt n P w G a ([] : List α) := fun h => absurd h (by simp)
/-- Their cells, where the row itself is the call's own. -/
def Pieces (n : Nat) (P : World → (Nat → Prop) → α → List Value → Prop) (w : World) (G : Nat → Prop) : List α → List Value → Prop
  | [], vs => vs = []
  | x :: xs, vs => ∃ cs rest, vs = cs ++ rest ∧ cs.length = n ∧ P w G x cs ∧ Pieces n P w G xs rest
theorem Pieces.only {n : Nat} {P : World → (Nat → Prop) → α → List Value → Prop} (hP : Keeps P) {S G : Nat → Prop} {w w' : World} (ho : Only S w w') (hS : ∀ k, G k → ¬ S k) : ∀ {xs : List α} {vs : List Value}, Pieces n P w G xs vs → Pieces n P w' G xs vs
  | [], _, h => h
  | x :: xs, _, ⟨cs, rest, e, h1, h2, h3⟩ => ⟨cs, rest, e, h1, hP S G w w' x cs ho hS h2, Pieces.only hP ho hS h3⟩
theorem Pieces.weaken {n : Nat} {P : World → (Nat → Prop) → α → List Value → Prop} (hP : Weakens P) {G G' : Nat → Prop} {w : World} (h : ∀ q, q < w.heap.size → G q → G' q) : ∀ {xs : List α} {vs : List Value}, Pieces n P w G xs vs → Pieces n P w G' xs vs
  | [], _, hc => hc
  | x :: xs, _, ⟨cs, rest, e, h1, h2, h3⟩ => ⟨cs, rest, e, h1, hP G G' w x cs h h2, Pieces.weaken hP h h3⟩
theorem Pieces.snoc {n : Nat} {P : World → (Nat → Prop) → α → List Value → Prop} {w : World} {G : Nat → Prop} {x : α} {cs : List Value} (hl : cs.length = n) (hv : P w G x cs) : ∀ {xs : List α} {vs : List Value}, Pieces n P w G xs vs → Pieces n P w G (xs ++ [x]) (vs ++ cs)
  | [], _, rfl => ⟨cs, [], by simp, hl, hv, rfl⟩
  | u :: xs, _, ⟨ds, rest, e, h1, h2, h3⟩ => ⟨ds, rest ++ cs, by rw [e, List.append_assoc], h1, h2, Pieces.snoc hl hv h3⟩
theorem Pieces.row {n : Nat} {P : World → (Nat → Prop) → α → List Value → Prop} {w : World} {G : Nat → Prop} {b : Nat} : ∀ {xs : List α} {vs : List Value} {off : Nat}, Pieces n P w G xs vs → w.rangeAt b off vs → RowAt n P w G xs b off
  | [], _, _, _, _ => trivial
  | x :: xs, _, off, ⟨cs, rest, e, h1, h2, h3⟩, hr => by
    subst e
    refine ⟨⟨cs, h1, fun j u hu => hr j u (by rw [List.getElem?_append_left (by have := (List.getElem?_eq_some_iff.1 hu).1; omega)]; exact hu), h2⟩, Pieces.row h3 (fun j u hu => ?_)⟩
    have := hr (n + j) u (by rw [List.getElem?_append_right (by omega), h1]; simpa using hu)
    rw [← Nat.add_assoc] at this; exact this
theorem Pieces.list {n : Nat} {P : World → (Nat → Prop) → α → List Value → Prop} (hP : Weakens P) {w : World} {B : Nat} {e : TypeId} {v : Value} {xs : List α} {vs : List Value} {G : Nat → Prop} (h : Pieces n P w G xs vs) (ho : w.ownsRow B e n v xs.length vs) (hG : ∀ q, G q → B ≤ q) : ∃ a c, v = .slice a xs.length c ∧ xs.length ≤ c ∧ c ≤ maxLen ∧ ListAt n P w (fun q => B ≤ q) a xs := by
  obtain ⟨a, c, rfl, h1, h2, _⟩ := own_form ho
  refine ⟨a, c, rfl, h1, h2, fun hp => ?_⟩
  obtain ⟨g, c', e', hg, hb, hr⟩ := own_range ho hp
  injection e' with e' _ _
  exact ⟨g, 0, e', hg, hb, rowAt_weaken hP (fun q _ h => hG q h) xs g 0 (h.row hr)⟩
end
end Go.Proofs.Ytlkglhgndfhjeaa
