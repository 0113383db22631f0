/- Lists of things as bytes, and back, plainly; lists of things in memory. -/
import Derived.Test.YtoojnpafcdaflaaEnw
import Derived.Test.YtoojnpafcdaflaaMut
namespace Go.Proofs.Ytoojnpafcdaflaa
open Go Go.RowKit
set_option linter.unusedVariables false
set_option linter.unusedSimpArgs false
set_option maxRecDepth 100000

section
variable {α : Type}
/-- How many things, and they. -/
def encF (enc : α → List UInt8) : List α → List UInt8
  | [] => []
  | x :: xs => enc x ++ encF enc xs
def encQ (enc : α → List UInt8) (xs : List α) : List UInt8 := encU xs.length ++ encF enc xs
def decF (dec : List UInt8 → Option (α × List UInt8)) : Nat → List UInt8 → Option (List α × List UInt8)
  | 0, l => some ([], l)
  | n + 1, l => match dec l with
    | none => none
    | some (x, r) => (decF dec n r).map fun p => (x :: p.1, p.2)
def decQ (most : Nat) (dec : List UInt8 → Option (α × List UInt8)) (l : List UInt8) : Option (List α × List UInt8) :=
  match decU most l with
  | none => none
  | some (n, r) => decF dec n r
theorem encF_append (enc : α → List UInt8) : ∀ (xs ys : List α), encF enc (xs ++ ys) = encF enc xs ++ encF enc ys
  | [], ys => rfl
  | x :: xs, ys => by simp only [List.cons_append, encF, encF_append enc xs ys, List.append_assoc]
theorem encF_take (enc : α → List UInt8) (xs : List α) (i : Nat) (h : i < xs.length) : encF enc (xs.take (i + 1)) = encF enc (xs.take i) ++ enc xs[i] := by
  rw [List.take_succ_eq_append_getElem h, encF_append]; simp [encF]
theorem encF_take_le (enc : α → List UInt8) (xs : List α) (i : Nat) (h : i < xs.length) : (encF enc (xs.take i)).length + (enc xs[i]).length ≤ (encF enc xs).length := by
  have e : xs = xs.take (i + 1) ++ xs.drop (i + 1) := (List.take_append_drop _ _).symm
  have h2 : (encF enc xs).length = (encF enc (xs.take (i + 1))).length + (encF enc (xs.drop (i + 1))).length := by
    conv => lhs; rw [e]
    rw [encF_append, List.length_append]
  rw [h2, encF_take enc xs i h, List.length_append]
  omega
theorem decF_enc {dec : List UInt8 → Option (α × List UInt8)} {enc : α → List UInt8} : ∀ (xs : List α) (r : List UInt8), (∀ x ∈ xs, ∀ r, dec (enc x ++ r) = some (x, r)) → decF dec xs.length (encF enc xs ++ r) = some (xs, r)
  | [], r, _ => rfl
  | x :: xs, r, h => by
    simp only [List.length_cons, decF, encF]
    rw [List.append_assoc, h x List.mem_cons_self]
    simp only
    rw [decF_enc xs r (fun y hy => h y (List.mem_cons_of_mem _ hy))]
    rfl
theorem decQ_enc {dec : List UInt8 → Option (α × List UInt8)} {enc : α → List UInt8} {most : Nat} (xs : List α) (r : List UInt8) (hm : xs.length ≤ most) (hl : xs.length < 18446744073709551616) (h : ∀ x ∈ xs, ∀ r, dec (enc x ++ r) = some (x, r)) : decQ most dec (encQ enc xs ++ r) = some (xs, r) := by
  unfold decQ encQ
  rw [List.append_assoc, decU_encA _ hl hm]
  exact decF_enc xs r h
theorem decQ_over {dec : List UInt8 → Option (α × List UInt8)} {enc : α → List UInt8} {most : Nat} (xs : List α) (r : List UInt8) (hm : most < xs.length) (hl : xs.length < 18446744073709551616) : decQ most dec (encQ enc xs ++ r) = none := by
  unfold decQ encQ
  rw [List.append_assoc, decU_overA _ hl hm]
/-- One thing among them that is not read: none is. -/
theorem decF_bad {dec : List UInt8 → Option (α × List UInt8)} {enc : α → List UInt8} : ∀ (xs : List α) (r : List UInt8), (∀ x ∈ xs, (∀ r, dec (enc x ++ r) = some (x, r)) ∨ (∀ r, dec (enc x ++ r) = none)) → (∃ x ∈ xs, ∀ r, dec (enc x ++ r) = none) → decF dec xs.length (encF enc xs ++ r) = none
  | [], r, _, ⟨x, hx, _⟩ => by cases hx
  | x :: xs, r, h, hb => by
    simp only [List.length_cons, decF, encF]
    rw [List.append_assoc]
    rcases h x List.mem_cons_self with h1 | h1
    · rw [h1]
      simp only
      obtain ⟨y, hy, hn⟩ := hb
      rcases List.mem_cons.1 hy with e | hy
      · subst e; have := h1 []; rw [hn] at this; cases this
      · rw [decF_bad xs r (fun y hy => h y (List.mem_cons_of_mem _ hy)) ⟨y, hy, hn⟩]; rfl
    · rw [h1]
theorem decQ_bad {dec : List UInt8 → Option (α × List UInt8)} {enc : α → List UInt8} {most : Nat} (xs : List α) (r : List UInt8) (hl : xs.length < 18446744073709551616) (h : ∀ x ∈ xs, (∀ r, dec (enc x ++ r) = some (x, r)) ∨ (∀ r, dec (enc x ++ r) = none)) (hb : ∃ x ∈ xs, ∀ r, dec (enc x ++ r) = none) : decQ most dec (encQ enc xs ++ r) = none := by
  rcases Nat.lt_or_ge most xs.length with hm | hm
  · exact decQ_over xs r hm hl
  · unfold decQ encQ
    rw [List.append_assoc, decU_encA _ hl hm]
    exact decF_bad xs r h hb
theorem decF_canon {dec : List UInt8 → Option (α × List UInt8)} {enc : α → List UInt8} {ok : α → Prop} (hc : ∀ l x r, dec l = some (x, r) → l = enc x ++ r ∧ ok x) : ∀ (n : Nat) (l : List UInt8) (xs : List α) (r : List UInt8), decF dec n l = some (xs, r) → l = encF enc xs ++ r ∧ xs.length = n ∧ ∀ x ∈ xs, ok x
  | 0, l, xs, r, h => by
    simp only [decF, Option.some.injEq, Prod.mk.injEq] at h
    obtain ⟨rfl, rfl⟩ := h
    exact ⟨rfl, rfl, fun x hx => by cases hx⟩
  | n + 1, l, xs, r, h => by
    simp only [decF] at h
    split at h
    · cases h
    · rename_i x r1 hd
      cases hq : decF dec n r1 with
      | none => rw [hq] at h; cases h
      | some p =>
        rw [hq] at h
        simp only [Option.map_some, Option.some.injEq, Prod.mk.injEq] at h
        obtain ⟨rfl, rfl⟩ := h
        obtain ⟨h1, h2, h3⟩ := decF_canon hc n r1 p.1 p.2 hq
        obtain ⟨h4, h5⟩ := hc l x r1 hd
        refine ⟨by rw [h4, h1]; simp only [encF, List.append_assoc], by simp [h2], fun y hy => ?_⟩
        rcases List.mem_cons.1 hy with e | hy
        · subst e; exact h5
        · exact h3 y hy
theorem decQ_canon {dec : List UInt8 → Option (α × List UInt8)} {enc : α → List UInt8} {ok : α → Prop} {most : Nat} (hc : ∀ l x r, dec l = some (x, r) → l = enc x ++ r ∧ ok x) {l : List UInt8} {xs : List α} {r : List UInt8} (h : decQ most dec l = some (xs, r)) : l = encQ enc xs ++ r ∧ xs.length ≤ most ∧ ∀ x ∈ xs, ok x := by
  unfold decQ at h
  split at h
  · cases h
  · rename_i n r1 hd
    obtain ⟨h1, h2, h3⟩ := decF_canon hc n r1 xs r h
    have h4 := decU_canon hd
    refine ⟨by rw [h4, h1]; unfold encQ; rw [h2, List.append_assoc], by rw [h2]; exact (decU_le hd).1, h3⟩
/-- Behind a list's length, some of its things read; m are still to come. -/
structure LRead (most : Nat) (dec : List UInt8 → Option (α × List UInt8)) (l : List UInt8) (β : Bool) (xs : List α) (r : List UInt8) (m : Nat) (β' : Bool) : Prop where
  good : β' = false → β = false ∧ decQ most dec l = (decF dec m r).map fun p => (xs ++ p.1, p.2)
  bad : β' = true → β = true ∨ decQ most dec l = none
theorem LRead.start {most n : Nat} {dec : List UInt8 → Option (α × List UInt8)} {l r : List UInt8} {β β' : Bool} (h1 : β' = false → β = false ∧ decU most l = some (n, r)) (h2 : β' = true → n = 0 ∧ (β = true ∨ decU most l = none)) : LRead most dec l β [] r n β' :=
  ⟨fun hb => ⟨(h1 hb).1, by unfold decQ; rw [(h1 hb).2]; simp⟩, fun hb => (h2 hb).2.imp id (fun h => by unfold decQ; rw [h])⟩
theorem LRead.next {most m : Nat} {dec : List UInt8 → Option (α × List UInt8)} {l r r' : List UInt8} {β β' : Bool} {xs : List α} {x : α} (h : LRead most dec l β xs r (m + 1) false) (h1 : β' = false → dec r = some (x, r')) (h2 : β' = true → dec r = none) : LRead most dec l β (xs ++ [x]) r' m β' := by
  obtain ⟨g1, g2⟩ := h.good rfl
  refine ⟨fun hb => ⟨g1, ?_⟩, fun hb => .inr ?_⟩
  · rw [g2]
    simp only [decF]
    rw [h1 hb]
    simp only [Option.map_map]
    congr 1
    funext p
    simp
  · rw [g2]
    simp only [decF]
    rw [h2 hb]; rfl
theorem LRead.done {most : Nat} {dec : List UInt8 → Option (α × List UInt8)} {l r : List UInt8} {β β' : Bool} {xs : List α} (h : LRead most dec l β xs r 0 β') : (β' = false → β = false ∧ decQ most dec l = some (xs, r)) ∧ (β' = true → β = true ∨ decQ most dec l = none) :=
  ⟨fun hb => by
    obtain ⟨h1, h2⟩ := h.good hb
    refine ⟨h1, ?_⟩
    rw [h2]; simp [decF], h.bad⟩
theorem LRead.stop {most m : Nat} {dec : List UInt8 → Option (α × List UInt8)} {l r : List UInt8} {β : Bool} {xs : List α} (h : LRead most dec l β xs r m true) : ((true : Bool) = false → β = false ∧ decQ most dec l = some (xs, r)) ∧ (true = true → β = true ∨ decQ most dec l = none) :=
  ⟨(fun hb => by cases hb), h.bad⟩

/-! ### In memory -/
/-- Things of n cells each, one behind the other. -/
def RowAt (n : Nat) (P : World → (Nat → Prop) → α → List Value → Prop) (w : World) (G : Nat → Prop) : List α → Nat → Nat → Prop
  | [], _, _ => True
  | x :: xs, b, off => (∃ cs, cs.length = n ∧ w.rangeAt b off cs ∧ P w G x cs) ∧ RowAt n P w G xs b (off + n)
def Keeps (P : World → (Nat → Prop) → α → List Value → Prop) : Prop := ∀ (S G : Nat → Prop) (w w' : World) (x : α) (cs : List Value), Only S w w' → (∀ k, G k → ¬ S k) → P w G x cs → P w' G x cs
def Weakens (P : World → (Nat → Prop) → α → List Value → Prop) : Prop := ∀ (G G' : Nat → Prop) (w : World) (x : α) (cs : List Value), (∀ q, q < w.heap.size → G q → G' q) → P w G x cs → P w G' x cs
theorem rowAt_get {n : Nat} {P : World → (Nat → Prop) → α → List Value → Prop} {w : World} {G : Nat → Prop} : ∀ {xs : List α} {b off : Nat}, RowAt n P w G xs b off → ∀ (i : Nat) (h : i < xs.length), ∃ cs, cs.length = n ∧ w.rangeAt b (off + i * n) cs ∧ P w G xs[i] cs
  | [], _, _, _, i, h => absurd h (by simp)
  | x :: xs, b, off, hv, 0, _ => by simpa using hv.1
  | x :: xs, b, off, hv, i + 1, h => by
    have := rowAt_get (xs := xs) hv.2 i (by simpa using h)
    rw [show off + (i + 1) * n = off + n + i * n from by rw [Nat.add_mul]; omega]; exact this
theorem rowAt_only {n : Nat} {P : World → (Nat → Prop) → α → List Value → Prop} (hP : Keeps P) {S G : Nat → Prop} {w w' : World} (ho : Only S w w') (hS : ∀ k, G k → ¬ S k) : ∀ (xs : List α) (b off : Nat), b < w.heap.size → G b → RowAt n P w G xs b off → RowAt n P w' G xs b off
  | [], _, _, _, _, _ => trivial
  | x :: xs, b, off, hb, hg, ⟨⟨cs, h1, h2, h3⟩, h4⟩ => ⟨⟨cs, h1, range_only h2 hb ho (hS b hg), hP S G w w' x cs ho hS h3⟩, rowAt_only hP ho hS xs b (off + n) hb hg h4⟩
theorem rowAt_weaken {n : Nat} {P : World → (Nat → Prop) → α → List Value → Prop} (hP : Weakens P) {G G' : Nat → Prop} {w : World} (h : ∀ q, q < w.heap.size → G q → G' q) : ∀ (xs : List α) (b off : Nat), RowAt n P w G xs b off → RowAt n P w G' xs b off
  | [], _, _, _ => trivial
  | x :: xs, b, off, ⟨⟨cs, h1, h2, h3⟩, h4⟩ => ⟨⟨cs, h1, h2, hP G G' w x cs h h3⟩, rowAt_weaken hP h xs b (off + n) h4⟩
def ListAt (n : Nat) (P : World → (Nat → Prop) → α → List Value → Prop) (w : World) (G : Nat → Prop) (a : Option Addr) (xs : List α) : Prop :=
  0 < xs.length → ∃ b off, a = some ⟨b, off, none⟩ ∧ G b ∧ b < w.heap.size ∧ RowAt n P w G xs b off
theorem ListAt.only {n : Nat} {P : World → (Nat → Prop) → α → List Value → Prop} (hP : Keeps P) {S G : Nat → Prop} {w w' : World} {a : Option Addr} {xs : List α} (h : ListAt n P w G a xs) (ho : Only S w w') (hS : ∀ k, G k → ¬ S k) : ListAt n P w' G a xs := fun hp => by
  obtain ⟨b, off, e, hg, hb, hr⟩ := h hp
  exact ⟨b, off, e, hg, Nat.lt_of_lt_of_le hb ho.size, rowAt_only hP ho hS xs b off hb hg hr⟩
theorem ListAt.weaken {n : Nat} {P : World → (Nat → Prop) → α → List Value → Prop} (hP : Weakens P) {G G' : Nat → Prop} {w : World} {a : Option Addr} {xs : List α} (h : ListAt n P w G a xs) (hG : ∀ q, q < w.heap.size → G q → G' q) : ListAt n P w G' a xs := fun hp => by
  obtain ⟨b, off, e, hg, hb, hr⟩ := h hp
  exact ⟨b, off, e, hG b hb hg, hb, rowAt_weaken hP hG xs b off hr⟩
theorem ListAt.get {n : Nat} {P : World → (Nat → Prop) → α → List Value → Prop} {w : World} {G : Nat → Prop} {a : Option Addr} {xs : List α} (h : ListAt n P w G a xs) (i : Nat) (hi : i < xs.length) : ∃ b off cs, a = some ⟨b, off, none⟩ ∧ G b ∧ b < w.heap.size ∧ cs.length = n ∧ w.rangeAt b (off + i * n) cs ∧ P w G xs[i] cs := by
  obtain ⟨b, off, e, hg, hb, hr⟩ := h (by omega)
  obtain ⟨cs, h1, h2, h3⟩ := rowAt_get hr i hi
  exact ⟨b, off, cs, e, hg, hb, h1, h2, h3⟩
theorem ListAt.nil {n : Nat} {P : World → (Nat → Prop) → α → List Value → Prop} {w : World} {G : Nat → Prop} {a : Option Addr} : ListAt n P w G a ([] : List α) := fun h => absurd h (by simp)
/-- Their cells, where the row itself is the call's own. -/
def Pieces (n : Nat) (P : World → (Nat → Prop) → α → List Value → Prop) (w : World) (G : Nat → Prop) : List α → List Value → Prop
  | [], vs => vs = []
  | x :: xs, vs => ∃ cs rest, vs = cs ++ rest ∧ cs.length = n ∧ P w G x cs ∧ Pieces n P w G xs rest
theorem Pieces.only {n : Nat} {P : World → (Nat → Prop) → α → List Value → Prop} (hP : Keeps P) {S G : Nat → Prop} {w w' : World} (ho : Only S w w') (hS : ∀ k, G k → ¬ S k) : ∀ {xs : List α} {vs : List Value}, Pieces n P w G xs vs → Pieces n P w' G xs vs
  | [], _, h => h
  | x :: xs, _, ⟨cs, rest, e, h1, h2, h3⟩ => ⟨cs, rest, e, h1, hP S G w w' x cs ho hS h2, Pieces.only hP ho hS h3⟩
theorem Pieces.weaken {n : Nat} {P : World → (Nat → Prop) → α → List Value → Prop} (hP : Weakens P) {G G' : Nat → Prop} {w : World} (h : ∀ q, q < w.heap.size → G q → G' q) : ∀ {xs : List α} {vs : List Value}, Pieces n P w G xs vs → Pieces n P w G' xs vs
  | [], _, hc => hc
  | x :: xs, _, ⟨cs, rest, e, h1, h2, h3⟩ => ⟨cs, rest, e, h1, hP G G' w x cs h h2, Pieces.weaken hP h h3⟩
theorem Pieces.snoc {n : Nat} {P : World → (Nat → Prop) → α → List Value → Prop} {w : World} {G : Nat → Prop} {x : α} {cs : List Value} (hl : cs.length = n) (hv : P w G x cs) : ∀ {xs : List α} {vs : List Value}, Pieces n P w G xs vs → Pieces n P w G (xs ++ [x]) (vs ++ cs)
  | [], _, rfl => ⟨cs, [], by simp, hl, hv, rfl⟩
  | u :: xs, _, ⟨ds, rest, e, h1, h2, h3⟩ => ⟨ds, rest ++ cs, by rw [e, List.append_assoc], h1, h2, Pieces.snoc hl hv h3⟩
theorem Pieces.row {n : Nat} {P : World → (Nat → Prop) → α → List Value → Prop} {w : World} {G : Nat → Prop} {b : Nat} : ∀ {xs : List α} {vs : List Value} {off : Nat}, Pieces n P w G xs vs → w.rangeAt b off vs → RowAt n P w G xs b off
  | [], _, _, _, _ => trivial
  | x :: xs, _, off, ⟨cs, rest, e, h1, h2, h3⟩, hr => by
    subst e
    refine ⟨⟨cs, h1, fun j u hu => hr j u (by rw [List.getElem?_append_left (by have := (List.getElem?_eq_some_iff.1 hu).1; omega)]; exact hu), h2⟩, Pieces.row h3 (fun j u hu => ?_)⟩
    have := hr (n + j) u (by rw [List.getElem?_append_right (by omega), h1]; simpa using hu)
    rw [← Nat.add_assoc] at this; exact this
theorem Pieces.list {n : Nat} {P : World → (Nat → Prop) → α → List Value → Prop} (hP : Weakens P) {w : World} {B : Nat} {e : TypeId} {v : Value} {xs : List α} {vs : List Value} {G : Nat → Prop} (h : Pieces n P w G xs vs) (ho : w.ownsRow B e n v xs.length vs) (hG : ∀ q, G q → B ≤ q) : ∃ a c, v = .slice a xs.length c ∧ xs.length ≤ c ∧ c ≤ maxLen ∧ ListAt n P w (fun q => B ≤ q) a xs := by
  obtain ⟨a, c, rfl, h1, h2, _⟩ := own_form ho
  refine ⟨a, c, rfl, h1, h2, fun hp => ?_⟩
  obtain ⟨g, c', e', hg, hb, hr⟩ := own_range ho hp
  injection e' with e' _ _
  exact ⟨g, 0, e', hg, hb, rowAt_weaken hP (fun q _ h => hG q h) xs g 0 (h.row hr)⟩
end
end Go.Proofs.Ytoojnpafcdaflaa
