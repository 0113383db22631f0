/- Readings whose fault stays: what has been read so far, told jointly for a reading that goes well and for one that doesn't. Over no program. sdl.reader in memory; its small calls. Regions that draw their order, whose operations' values hang together: a relation may name the values of the operations that it hangs on. parse.Type: the type from a token on. sdl.reader: a type, and a value, that stand there. -/
import Derived.Test.YtgephneppgcnlaaDoorPrA
import Derived.Test.YtgephneppgcnlaaDoorTrw
import Derived.Test.YtgephneppgcnlaaDoorEnc
import Derived.Test.YtgephneppgcnlaaDoorPrd
import Derived.Test.YtgephneppgcnlaaDoorRgA
import Derived.Deep.QuietTactic
import Derived.BigQuiet
import Derived.IntWalk
import Derived.Test.YtgephneppgcnlaaDoorPdA
import Derived.Test.YtgephneppgcnlaaDoorPty
import Derived.Test.YtgephneppgcnlaaDoorPva
namespace Go.Proofs.YtgephneppgcnlaaDoor
set_option linter.unusedVariables false
set_option linter.unusedSimpArgs false

def PR.unit {α : Type} (p : PR α) : PR Unit := p.bind fun _ r => .ok () r
/-- A test of the next token; where there is a fault it is false. -/
def tst (σ : PR Unit) (c : List Tok → Bool) : Bool := match σ with | .ok _ r => c r | .bad _ _ => false
def flt (σ : PR Unit) (c : Nat) : PR Unit := σ.bind fun _ r => .bad (atT r) c
/-- What has been read, t, and what is to be read yet, F: the whole is total; the reader stands at σ. -/
def Jn {τ α : Type} (total : PR α) (σ : PR Unit) (K : τ → Prop) (F : τ → List Tok → PR α) : Prop := ∃ Q : PR τ, total = Q.bind F ∧ σ = Q.unit ∧ ∀ t q, Q = .ok t q → K t
section
variable {τ α β : Type} {total : PR α} {σ : PR Unit} {K : τ → Prop}
theorem Jn.start (σ : PR Unit) (p : List Tok → PR α) : Jn (τ := Unit) (σ.bind fun _ => p) σ (fun _ => True) (fun _ => p) := ⟨σ, rfl, by cases σ <;> rfl, fun _ _ _ => trivial⟩
theorem Jn.from (σ : PR Unit) (t0 : τ) (F : τ → List Tok → PR α) (hk : K t0) : Jn (σ.bind fun _ => F t0) σ K F := ⟨σ.bind fun _ r => .ok t0 r, by cases σ <;> rfl, by cases σ <;> rfl, fun t q e => by
  cases σ with
  | ok u r => injection e with e _; subst e; exact hk
  | bad a c => cases e⟩
theorem Jn.bad {F : τ → List Tok → PR α} {a c : Nat} (h : Jn total (.bad a c) K F) : total = .bad a c := by
  obtain ⟨Q, h1, h2, _⟩ := h
  cases Q with
  | ok t q => cases h2
  | bad a' c' => injection h2 with e1 e2; subst e1; subst e2; exact h1
/-- What is known, where there is no fault. -/
theorem Jn.at_ {F : τ → List Tok → PR α} {r : List Tok} (h : Jn total (.ok () r) K F) : ∃ t, K t ∧ total = F t r := by
  obtain ⟨Q, h1, h2, h3⟩ := h
  cases Q with
  | ok t q => injection h2 with _ e; subst e; exact ⟨t, h3 t _ rfl, h1⟩
  | bad a' c' => cases h2
theorem Jn.mono {K' : τ → Prop} {F : τ → List Tok → PR α} (h : Jn total σ K F) (hk : ∀ t, K t → K' t) : Jn total σ K' F := by
  obtain ⟨Q, h1, h2, h3⟩ := h
  exact ⟨Q, h1, h2, fun t q e => hk t (h3 t q e)⟩
theorem Jn.call {P : List Tok → PR β} {G : τ → β → List Tok → PR α} {σ' : PR Unit} (V : β → Prop) (h : Jn total σ K (fun t r => (P r).bind (G t))) (hs : σ' = (σ.bind fun _ => P).unit) (hv : ∀ x q, (σ.bind fun _ => P) = .ok x q → V x) :
    Jn (τ := τ × β) total σ' (fun p => K p.1 ∧ V p.2) (fun p => G p.1 p.2) := by
  obtain ⟨Q, h1, h2, h3⟩ := h
  subst h2
  refine ⟨Q.bind fun t r => (P r).bind fun x r' => .ok (t, x) r', ?_, ?_, fun p q e => ?_⟩
  · rw [h1]
    cases Q with
    | ok t q =>
      show (P q).bind (G t) = ((P q).bind fun x r' => PR.ok (t, x) r').bind fun p => G p.1 p.2
      cases P q <;> rfl
    | bad a e => rfl
  · rw [hs]
    cases Q with
    | ok t q =>
      show PR.unit (P q) = PR.unit ((P q).bind fun x r' => PR.ok (t, x) r')
      cases P q <;> rfl
    | bad a e => rfl
  · cases Q with
    | ok t q0 =>
      have e : ((P q0).bind fun x r' => PR.ok (t, x) r') = .ok p q := e
      cases hp : P q0 with
      | ok x q1 =>
        rw [hp] at e
        injection e with e1 e2
        subst e1
        exact ⟨h3 t q0 rfl, hv x q1 hp⟩
      | bad a c => rw [hp] at e; cases e
    | bad a c => cases e
theorem Jn.no {c : List Tok → Bool} {F1 F2 : τ → List Tok → PR α} (h : Jn total σ K (fun t r => if c r then F1 t r else F2 t r)) (hb : tst σ c = false) : Jn total σ K F2 := by
  obtain ⟨Q, h1, h2, h3⟩ := h
  refine ⟨Q, ?_, h2, h3⟩
  rw [h1]
  cases Q with
  | ok t q =>
    have h2 : σ = .ok () q := h2
    rw [h2] at hb
    have hb : c q = false := hb
    exact if_neg (by rw [hb]; decide)
  | bad a e => rfl
/-- The reading ends: what is told. -/
theorem Jn.done {mk : τ → α} (h : Jn total σ K (fun t r => .ok (mk t) r)) : σ = total.unit ∧ ∀ x q, total = .ok x q → ∃ t, x = mk t ∧ K t := by
  obtain ⟨Q, h1, h2, h3⟩ := h
  subst h1; subst h2
  cases Q with
  | ok t q =>
    refine ⟨rfl, fun x q' e => ?_⟩
    injection e with e1 e2
    exact ⟨t, e1.symm, h3 t q rfl⟩
  | bad a c => exact ⟨rfl, fun x q' e => by cases e⟩
/-- .. by a fault. -/
theorem Jn.fault {F : τ → List Tok → PR α} {c : Nat} (h : Jn total σ K F) (hf : ∀ t r, F t r = .bad (atT r) c) : flt σ c = total.unit ∧ ∀ x q, total ≠ .ok x q := by
  obtain ⟨Q, h1, h2, h3⟩ := h
  subst h1; subst h2
  cases Q with
  | ok t q =>
    refine ⟨?_, fun x q' e => ?_⟩
    · show PR.bad (atT q) c = (F t q).unit
      rw [hf]; rfl
    · have e : F t q = .ok x q' := e
      rw [hf] at e; cases e
  | bad a c => exact ⟨rfl, fun x q' e => by cases e⟩
end
end Go.Proofs.YtgephneppgcnlaaDoor
namespace Go.Proofs.YtgephneppgcnlaaDoor
open Go Go.RowKit
set_option linter.unusedVariables false
set_option linter.unusedSimpArgs false

/-- The reader at b stands ahead of the tokens r; e is its fault's number. -/
structure RdS (w : World) (b : Nat) (all r : List Tok) (e : Int) : Prop where
  row : ∃ g off c i, w.heap[b]? = some (.cells #[.slice (some ⟨g, off, none⟩) all.length c, .int .i64 (i : Nat), .int .i64 e] 96 (0, 0)) ∧ TRow w (.slice (some ⟨g, off, none⟩) all.length c) all ∧ g < b ∧ all.drop i = r ∧ i + r.length = all.length
  ends : EndR r
  few : all.length ≤ 1000000
theorem RdS.lt {w : World} {b : Nat} {all r : List Tok} {e : Int} (h : RdS w b all r e) : b < w.heap.size := by
  obtain ⟨g, off, c, i, h1, _⟩ := h.row
  exact (Array.getElem?_eq_some_iff.1 h1).1
theorem RdS.only {S : Nat → Prop} {w w' : World} {b : Nat} {all r : List Tok} {e : Int} (h : RdS w b all r e) (ho : Only S w w') (hS : ∀ k, k ≤ b → ¬ S k) : RdS w' b all r e := by
  obtain ⟨g, off, c, i, h1, h2, h3, h4, h5⟩ := h.row
  refine ⟨⟨g, off, c, i, ?_, ?_, h3, h4, h5⟩, h.ends, h.few⟩
  · rw [ho.block b h.lt (hS b (Nat.le_refl _))]; exact h1
  · refine h2.only (S := fun k => S k) ho (fun a n c' e => ?_)
    injection e with e
    injection e with e
    subst e
    exact hS g (by omega)
theorem RdS.still {w w' : World} {b : Nat} {all r : List Tok} {e : Int} (h : RdS w b all r e) (ho : Only (fun _ => False) w w') : RdS w' b all r e := h.only ho (fun _ _ h => h)
theorem RdS.next {w : World} {b : Nat} {all r : List Tok} {e : Int} (h : RdS w b all r e) : ∃ g off c N t r', r = t :: r' ∧ ∃ i : Nat, w.cell? ⟨b, 0, none⟩ = some (.slice (some ⟨g, off, none⟩) N c) ∧ w.cell? ⟨b, 1, none⟩ = some (.int .i64 (i : Int)) ∧ w.cell? ⟨b, 2, none⟩ = some (.int .i64 e) ∧ (∀ o, w.frozen? ⟨b, o, none⟩ = false) ∧
    i < N ∧ N ≤ c ∧ N ≤ 1000000 ∧ c ≤ 9223372036854775807 ∧ g < b ∧
    w.cell? ⟨g, off + i * 4, none⟩ = some (.int .u8 (t.kind : Int)) ∧ w.cell? ⟨g, off + i * 4 + 1, none⟩ = some (.string ⟨t.text.toArray⟩) ∧ w.cell? ⟨g, off + i * 4 + 2, none⟩ = some (.int .i64 t.n) ∧ w.cell? ⟨g, off + i * 4 + 3, none⟩ = some (.int .i64 (t.at_ : Int)) := by
  obtain ⟨g, off, c, i, h1, h2, h3, h4, h5⟩ := h.row
  have he := h.ends
  cases r with
  | nil => exact absurd he (by simp [EndR])
  | cons t r' =>
    have hi : i < all.length := by simp only [List.length_cons] at h5; omega
    obtain ⟨g', off', c', e, k1, k2, k3, HC⟩ := h2.at_ hi
    injection e with e e2 e3
    injection e with e
    injection e with e4 e5 _
    subst e4; subst e5; subst e3
    obtain ⟨a1, a2, a3, a4⟩ := HC i hi
    have ht : all[i] = t := by
      have := congrArg (fun l : List Tok => l[0]?) h4
      simp only [List.getElem?_drop, Nat.add_zero, List.getElem?_cons_zero] at this
      rw [List.getElem?_eq_getElem hi] at this
      exact Option.some.inj this
    rw [ht] at a1 a2 a3 a4
    unfold maxLen at k2
    exact ⟨g, off, c, all.length, t, r', rfl, i, by simp [World.cell?, h1], by simp [World.cell?, h1], by simp [World.cell?, h1], fun o => by simp [World.frozen?, h1], hi, k1, h.few, k2, h3, a1, a2, a3, a4⟩
theorem RdS.set {w : World} {b : Nat} {all r : List Tok} {e : Int} (h : RdS w b all r e) {g off c : Nat} {i : Nat} (h0 : w.heap[b]? = some (.cells #[.slice (some ⟨g, off, none⟩) all.length c, .int .i64 (i : Int), .int .i64 e] 96 (0, 0))) (S : Nat → Prop) {w' : World} (ho : Only (fun k => k = b) w w') {j : Nat} {e' : Int} {r' : List Tok}
    (h1 : w'.heap[b]? = some (.cells #[.slice (some ⟨g, off, none⟩) all.length c, .int .i64 (j : Int), .int .i64 e'] 96 (0, 0))) (hj : all.drop j = r') (hl : j + r'.length = all.length) (he : EndR r') : RdS w' b all r' e' := by
  obtain ⟨g', off', c', i', k1, k2, k3, k4, k5⟩ := h.row
  have : g' = g ∧ off' = off ∧ c' = c := by rw [h0] at k1; simp at k1; exact ⟨k1.1.1.1.symm, k1.1.1.2.symm, k1.1.2.symm⟩
  obtain ⟨rfl, rfl, rfl⟩ := this
  refine ⟨⟨g', off', c', j, h1, k2.only ho (fun a n c e => ?_), k3, hj, hl⟩, he, h.few⟩
  injection e with e
  injection e with e
  subst e
  show ¬ g' = b; omega
theorem RdS.step {w : World} {b : Nat} {all r' : List Tok} {t : Tok} {e : Int} (h : RdS w b all (t :: r') e) (hk : t.kind ≠ 0) {i : Int} (hi : w.cell? ⟨b, 1, none⟩ = some (.int .i64 i)) : RdS (w.setCell ⟨b, 1, none⟩ (.int .i64 (i + 1))) b all r' e := by
  obtain ⟨g, off, c, j, h1, h2, h3, h4, h5⟩ := h.row
  have hj : i = (j : Int) := by
    simp [World.cell?, h1] at hi
    exact hi.symm
  subst hj
  have ho : Only (fun k => k = b) w (w.setCell ⟨b, 1, none⟩ (.int .i64 ((j : Int) + 1))) := (Only.refl (fun k => k = b) w).setCell (.inl rfl) _
  refine ⟨⟨g, off, c, j + 1, ?_, h2.only ho (fun a n c' e => ?_), h3, ?_, ?_⟩, h.ends.tail hk, h.few⟩
  · have := heap_set (o := 1) h1 (.int .i64 ((j : Int) + 1))
    rw [this]; simp
  · injection e with e
    injection e with e
    subst e
    show ¬ g = b; omega
  · rw [← List.drop_drop, h4]; rfl
  · simp only [List.length_cons] at h5; omega
/-- Where the reader stands, or its fault. -/
def stOf (r : List Tok) (e : Nat) : PR Unit := if e = 0 then .ok () r else .bad (atT r) e
def Sd (w : World) (b : Nat) (all : List Tok) (σ : PR Unit) : Prop := ∃ (r : List Tok) (e : Nat), RdS w b all r (e : Int) ∧ σ = stOf r e
theorem Sd.only {S : Nat → Prop} {w w' : World} {b : Nat} {all : List Tok} {σ : PR Unit} (h : Sd w b all σ) (ho : Only S w w') (hS : ∀ k, k ≤ b → ¬ S k) : Sd w' b all σ := by
  obtain ⟨r, e, h, hs⟩ := h
  exact ⟨r, e, h.only ho hS, hs⟩
theorem Sd.still {w w' : World} {b : Nat} {all : List Tok} {σ : PR Unit} (h : Sd w b all σ) (ho : Only (fun _ => False) w w') : Sd w' b all σ := h.only ho (fun _ _ h => h)
theorem Sd.lt {w : World} {b : Nat} {all : List Tok} {σ : PR Unit} (h : Sd w b all σ) : b < w.heap.size := by
  obtain ⟨r, e, h, _⟩ := h
  exact h.lt
theorem st_bad {r : List Tok} {e : Nat} (h : e ≠ 0) : stOf r e = .bad (atT r) e := if_neg h
end Go.Proofs.YtgephneppgcnlaaDoor
namespace Go.Proofs.YtgephneppgcnlaaDoor
open Go Go.RowKit
set_option linter.unusedVariables false
set_option linter.unusedSimpArgs false
section
variable {P : Program} {ops : Array Oper} {Q : Exit → Act → World → Prop}

abbrev RelJ := List Value → Value → World → Prop
def StableJ (F : Nat → Prop) (r : RelJ) : Prop := ∀ ys v w w', r ys v w → Only F w w' → r ys v w'
theorem StableJ.is (F : Nat → Prop) (c : List Value → Value) : StableJ F (fun ys v _ => v = c ys) := fun _ _ _ _ h _ => h
/-! ### A call and a new block that no order ties, and a store into the block -/
/-! The same, operation by operation -/
end
end Go.Proofs.YtgephneppgcnlaaDoor
namespace Go.Proofs.YtgephneppgcnlaaDoor
open Go Go.RowKit
set_option linter.unusedVariables false
set_option linter.unusedSimpArgs false

def RdIs {α : Type} (B : Nat) (w' : World) (enc : α → List Cell) (Z : List Value) (p : PR α) (cs : List Value) (c : Nat) (q : List Tok) : Prop := match p with
  | .ok x r => c = 0 ∧ q = r ∧ CellsAt w' (fun k => B ≤ k) (enc x) cs
  | .bad a d => c = d ∧ a = atT q ∧ cs = Z
end Go.Proofs.YtgephneppgcnlaaDoor
namespace Go.Proofs.YtgephneppgcnlaaDoor
open Go Go.RowKit
set_option linter.unusedVariables false
set_option linter.unusedSimpArgs false

def RdG {α : Type} (G : Nat → Prop) (w' : World) (enc : α → List Cell) (Z : List Value) (p : PR α) (cs : List Value) (c : Nat) (q : List Tok) : Prop := match p with
  | .ok x r => c = 0 ∧ q = r ∧ CellsAt w' G (enc x) cs
  | .bad a d => c = d ∧ a = atT q ∧ cs = Z
theorem RdIs.g {α : Type} {B : Nat} {w : World} {enc : α → List Cell} {Z : List Value} {p : PR α} {cs : List Value} {c : Nat} {q : List Tok} (h : RdIs B w enc Z p cs c q) {G : Nat → Prop} (hG : ∀ k, B ≤ k → G k) : RdG G w enc Z p cs c q := by
  cases p with
  | ok x r => exact ⟨h.1, h.2.1, CellsAt.weaken (fun k _ hk => hG k hk) _ _ h.2.2⟩
  | bad a d => exact h
theorem RdG.only {α : Type} {G : Nat → Prop} {w w' : World} {enc : α → List Cell} {Z : List Value} {p : PR α} {cs : List Value} {c : Nat} {q : List Tok} (h : RdG G w enc Z p cs c q) {S : Nat → Prop} (ho : Only S w w') (hS : ∀ k, G k → ¬ S k) : RdG G w' enc Z p cs c q := by
  cases p with
  | ok x r => exact ⟨h.1, h.2.1, CellsAt.only ho hS _ _ h.2.2⟩
  | bad a d => exact h
theorem RdG.weaken {α : Type} {G G' : Nat → Prop} {w : World} {enc : α → List Cell} {Z : List Value} {p : PR α} {cs : List Value} {c : Nat} {q : List Tok} (h : RdG G w enc Z p cs c q) (hG : ∀ k, k < w.heap.size → G k → G' k) : RdG G' w enc Z p cs c q := by
  cases p with
  | ok x r => exact ⟨h.1, h.2.1, CellsAt.weaken hG _ _ h.2.2⟩
  | bad a d => exact h
/-- What was read, as the reader's state. -/
theorem RdG.st {α : Type} {G : Nat → Prop} {w : World} {enc : α → List Cell} {Z : List Value} {p : PR α} {cs : List Value} {c : Nat} {q : List Tok} (h : RdG G w enc Z p cs c q) (hz : NZ p) : p.unit = stOf q c := by
  cases p with
  | ok x r => obtain ⟨rfl, rfl, _⟩ := h; rfl
  | bad a d =>
    obtain ⟨rfl, rfl, _⟩ := h
    rw [st_bad hz]; rfl
end Go.Proofs.YtgephneppgcnlaaDoor
