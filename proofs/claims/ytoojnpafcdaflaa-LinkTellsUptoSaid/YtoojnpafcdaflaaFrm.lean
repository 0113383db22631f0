/- Form: the document's (ref03.Form) and the program's (wire.form). -/
import Derived.Test.YtoojnpafcdaflaaCnt
namespace Go.Proofs.Ytoojnpafcdaflaa
open Go Go.RowKit
set_option linter.unusedVariables false
set_option linter.unusedSimpArgs false

/-- What a value's own parts must be. -/
def ownF (d k : Nat) (n : Int) (s : List UInt8) (ks : List (List UInt8)) (vs : List VT) : Prop :=
  d < 24 ∧ k ≤ 8 ∧ vs.length ≤ 200 ∧ s.length ≤ 200 ∧ (n ≠ 0 → k = 1 ∨ (k = 3 ∧ n = 1)) ∧ (s ≠ [] → k = 2 ∨ k = 4 ∨ k = 7 ∨ k = 8) ∧ (vs ≠ [] → k = 5 ∨ k = 6) ∧ (k = 6 → ks.length = vs.length) ∧ (k ≠ 6 → ks = [])
instance (k : Nat) (vs : List VT) : Decidable (vs ≠ [] → k = 5 ∨ k = 6) := by
  cases vs
  · exact .isTrue (fun h => absurd rfl h)
  · by_cases h : k = 5 ∨ k = 6
    · exact .isTrue (fun _ => h)
    · exact .isFalse (fun g => h (g (by simp)))
instance (d k : Nat) (n : Int) (s : List UInt8) (ks : List (List UInt8)) (vs : List VT) : Decidable (ownF d k n s ks vs) := by unfold ownF; exact inferInstance
mutual
def formV : VT → Nat → Bool
  | .mk k n s ks vs, d => if ownF d k n s ks vs then formVs (decide (k = 6)) ks vs (d + 1) else false
def formVs : Bool → List (List UInt8) → List VT → Nat → Bool
  | _, _, [], _ => true
  | o, ks, v :: vs, d => if (o = true ∧ 32 < (ks.headD []).length) then false else if formV v d then formVs o ks.tail vs d else false
end
theorem formVs_drop (o : Bool) (d : Nat) : ∀ (ks : List (List UInt8)) (vs : List VT) (i : Nat) (h : i < vs.length), formVs o (ks.drop i) (vs.drop i) d = if (o = true ∧ 32 < (ks.getD i []).length) then false else if formV vs[i] d then formVs o (ks.drop (i + 1)) (vs.drop (i + 1)) d else false := by
  intro ks vs i h
  rw [List.drop_eq_getElem_cons h]
  simp only [formVs]
  have e1 : (ks.drop i).headD [] = ks.getD i [] := by
    rw [List.headD_eq_head?_getD, List.head?_drop, List.getD_eq_getElem?_getD]
  rw [e1, List.tail_drop]

/-- A whole struct loaded out of a row, under a guard that says yes. -/
theorem wpList_load_midw {P : Program} {ops : Array Oper} {rest : List Oper} {o : Oper} {a : Act} {w : World} {Q : Exit → Act → World → Prop} (hw : Region.wanted o (yielded ops a.tmps) = true) (ty : TypeId) (x : Operand) (ho : o.op = .load ty x)
    (b of : Nat) (hx : a.eval x = .pointer (some ⟨b, of, none⟩)) (cs : List Value) (d : TypeDesc) (hc : w.rangeAt b of cs)
    (hu : P.underlying ty = some d) (hd : d.isRow = true) (hi : (P.info? ty).map (·.size) = some cs.length)
    (h : wpList P ops Q rest (a.put o.dst (.agg cs.toArray)) w) : wpList P ops Q (o :: rest) a w :=
  wpList_step fun K hK => by rw [if_pos hw]; exact wp_load_mid ty x ho b of hx cs d hc hu hd hi (hK _ _ h)

/-- What is known of the lesser values. -/
def FormIH (f : FuncId) (z : Nat) : Prop := ∀ (t : VT), SizeOf.sizeOf t ≤ z → ∀ (G : Nat → Prop) (w : World) (cs : List Value) (d : Nat), ValAt w G t cs → d ≤ 1000 →
    Calls Try.prog f #[.agg cs.toArray, .int .i64 d] w (fun e w' => e = .returned (.bool (formV t d)) ∧ Only (fun _ => False) w w')
def VT.kind : VT → Nat
  | .mk k _ _ _ _ => k
theorem VT.kind_mk (k : Nat) (n : Int) (s : List UInt8) (ks : List (List UInt8)) (vs : List VT) : (VT.mk k n s ks vs).kind = k := rfl
end Go.Proofs.Ytoojnpafcdaflaa
