/- . -/
import Derived.Test.YtnkpoddbbdmipaaGreatDoorTApPnt
namespace Go.Proofs.YtnkpoddbbdmipaaGreatDoor
set_option linter.unusedVariables false
set_option linter.unusedSimpArgs false
def PR.unit {α : Type} (p : PR α) : PR Unit := p.bind fun _ r => .ok () r
def tst (σ : PR Unit) (c : List Tok → Bool) : Bool := match σ with | .ok _ r => c r | .bad _ _ => false
def adv (σ : PR Unit) : PR Unit := σ.bind fun _ r => .ok () r.tail
def flt (σ : PR Unit) (c : Nat) : PR Unit := σ.bind fun _ r => .bad (atT r) c
def Jn {τ α : Type} (total : PR α) (σ : PR Unit) (K : τ → Prop) (F : τ → List Tok → PR α) : Prop := ∃ Q : PR τ, total = Q.bind F ∧ σ = Q.unit ∧ ∀ t q, Q = .ok t q → K t
section
variable {τ α β : Type} {total : PR α} {σ : PR Unit} {K : τ → Prop}
theorem Jn.start (σ : PR Unit) (p : List Tok → PR α) : Jn (τ := Unit) (σ.bind fun _ => p) σ (fun _ => True) (fun _ => p) := ⟨σ, rfl, by cases σ <;> rfl, fun _ _ _ => trivial⟩
theorem Jn.from (σ : PR Unit) (t0 : τ) (F : τ → List Tok → PR α) (hk : K t0) : Jn (σ.bind fun _ => F t0) σ K F := ⟨σ.bind fun _ r => .ok t0 r, by cases σ <;> rfl, by cases σ <;> rfl, fun t q e => by
 cases σ with
 | ok u r => injection e with e _; subst e; exact hk
 | bad a c => cases e⟩
theorem Jn.bad {F : τ → List Tok → PR α} {a c : Nat} (h : Jn total (.bad a c) K F) : total = .bad a c := by
 obtain ⟨Q, h1, h2, _⟩ := h
 cases Q with
 | ok t q => cases h2
 | bad a' c' => injection h2 with e1 e2; subst e1; subst e2; exact h1
theorem Jn.at_ {F : τ → List Tok → PR α} {r : List Tok} (h : Jn total (.ok () r) K F) : ∃ t, K t ∧ total = F t r := by
 obtain ⟨Q, h1, h2, h3⟩ := h
 cases Q with
 | ok t q => injection h2 with _ e; subst e; exact ⟨t, h3 t _ rfl, h1⟩
 | bad a' c' => cases h2
theorem Jn.mono {K' : τ → Prop} {F : τ → List Tok → PR α} (h : Jn total σ K F) (hk : ∀ t, K t → K' t) : Jn total σ K' F := by
 obtain ⟨Q, h1, h2, h3⟩ := h; exact ⟨Q, h1, h2, fun t q e => hk t (h3 t q e)⟩
theorem Jn.call {P : List Tok → PR β} {G : τ → β → List Tok → PR α} {σ' : PR Unit} (V : β → Prop) (h : Jn total σ K (fun t r => (P r).bind (G t))) (hs : σ' = (σ.bind fun _ => P).unit) (hv : ∀ x q, (σ.bind fun _ => P) = .ok x q → V x) :
  Jn (τ := τ × β) total σ' (fun p => K p.1 ∧ V p.2) (fun p => G p.1 p.2) := by
 obtain ⟨Q, h1, h2, h3⟩ := h; subst h2; refine ⟨Q.bind fun t r => (P r).bind fun x r' => .ok (t, x) r', ?_, ?_, fun p q e => ?_⟩
 ·rw [h1]
  cases Q with
  | ok t q =>
   show (P q).bind (G t) = ((P q).bind fun x r' => PR.ok (t, x) r').bind fun p => G p.1 p.2
   cases P q <;> rfl
  | bad a e => rfl
 ·rw [hs]
  cases Q with
  | ok t q =>
   show PR.unit (P q) = PR.unit ((P q).bind fun x r' => PR.ok (t, x) r')
   cases P q <;> rfl
  | bad a e => rfl
 ·cases Q with
  | ok t q0 =>
   have e : ((P q0).bind fun x r' => PR.ok (t, x) r') = .ok p q := e
   cases hp : P q0 with
   | ok x q1 =>
    rw [hp] at e
    injection e with e1 e2
    subst e1; exact ⟨h3 t q0 rfl, hv x q1 hp⟩
   | bad a c => rw [hp] at e; cases e
  | bad a c => cases e
theorem Jn.yes {c : List Tok → Bool} {F1 F2 : τ → List Tok → PR α} (h : Jn total σ K (fun t r => if c r then F1 t r else F2 t r)) (hb : tst σ c = true) : Jn total σ K F1 := by
 obtain ⟨Q, h1, h2, h3⟩ := h; refine ⟨Q, ?_, h2, h3⟩
 rw [h1]
 cases Q with
 | ok t q =>
  have h2 : σ = .ok () q := h2; rw [h2] at hb; exact if_pos hb
 | bad a e => rfl
theorem Jn.no {c : List Tok → Bool} {F1 F2 : τ → List Tok → PR α} (h : Jn total σ K (fun t r => if c r then F1 t r else F2 t r)) (hb : tst σ c = false) : Jn total σ K F2 := by
 obtain ⟨Q, h1, h2, h3⟩ := h; refine ⟨Q, ?_, h2, h3⟩
 rw [h1]
 cases Q with
 | ok t q =>
  have h2 : σ = .ok () q := h2; rw [h2] at hb; have hb : c q = false := hb; exact if_neg (by rw [hb]; decide)
 | bad a e => rfl
theorem Jn.adv {F : τ → List Tok → PR α} (h : Jn total σ K (fun t r => F t r.tail)) : Jn total (adv σ) K F := by
 obtain ⟨Q, h1, h2, h3⟩ := h; refine ⟨Q.bind fun t r => .ok t r.tail, ?_, ?_, fun t q e => ?_⟩
 ·rw [h1]; cases Q <;> rfl
 ·rw [h2]; cases Q <;> rfl
 ·cases Q with
  | ok t0 q0 => injection e with e1 e2; subst e1; exact h3 _ _ rfl
  | bad a c => cases e
theorem Jn.done {mk : τ → α} (h : Jn total σ K (fun t r => .ok (mk t) r)) : σ = total.unit ∧ ∀ x q, total = .ok x q → ∃ t, x = mk t ∧ K t := by
 obtain ⟨Q, h1, h2, h3⟩ := h; subst h1; subst h2
 cases Q with
 | ok t q =>
  refine ⟨rfl, fun x q' e => ?_⟩
  injection e with e1 e2
  exact ⟨t, e1.symm, h3 t q rfl⟩
 | bad a c => exact ⟨rfl, fun x q' e => by cases e⟩
theorem Jn.fault {F : τ → List Tok → PR α} {c : Nat} (h : Jn total σ K F) (hf : ∀ t r, F t r = .bad (atT r) c) : flt σ c = total.unit ∧ ∀ x q, total ≠ .ok x q := by
 obtain ⟨Q, h1, h2, h3⟩ := h; subst h1; subst h2
 cases Q with
 | ok t q =>
  refine ⟨?_, fun x q' e => ?_⟩
  ·show PR.bad (atT q) c = (F t q).unit
   rw [hf]; rfl
  ·have e : F t q = .ok x q' := e; rw [hf] at e; cases e
 | bad a c => exact ⟨rfl, fun x q' e => by cases e⟩
end
end Go.Proofs.YtnkpoddbbdmipaaGreatDoor
