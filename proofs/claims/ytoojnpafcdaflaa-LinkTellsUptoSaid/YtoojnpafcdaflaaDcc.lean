/- What is read as a value are just its bytes: plain. -/
import Derived.Test.YtoojnpafcdaflaaDec
namespace Go.Proofs.Ytoojnpafcdaflaa
open Go Go.RowKit
set_option linter.unusedVariables false
set_option linter.unusedSimpArgs false

theorem decVs_canon {f d : Nat} (ih : ∀ (l : List UInt8) (t : VT) (r : List UInt8), decV f l = some (t, r) → l = encV t ++ r ∧ formV t d = true ∧ SmallV t) (o : Bool) : ∀ (n : Nat) (l : List UInt8) (ks : List (List UInt8)) (vs : List VT) (r : List UInt8), decVs (decV f) o n l = some (ks, vs, r) →
    l = encVs o ks vs ++ r ∧ vs.length = n ∧ (o = true → ks.length = n) ∧ (o = false → ks = []) ∧ formVs o ks vs d = true ∧ SmallVs vs
  | 0, l, ks, vs, r, h => by
    simp only [decVs, Option.some.injEq, Prod.mk.injEq] at h
    obtain ⟨rfl, rfl, rfl⟩ := h
    exact ⟨by simp [encVs], rfl, fun _ => rfl, fun _ => rfl, by simp [formVs], trivial⟩
  | n + 1, l, ks, vs, r, h => by
    cases o with
    | false =>
      simp only [decVs] at h
      rw [if_neg (by decide)] at h
      cases hv : decV f l with
      | none => rw [hv] at h; cases h
      | some p =>
        obtain ⟨v, q⟩ := p
        rw [hv] at h
        simp only at h
        obtain ⟨⟨ks', vs', r'⟩, hs, he⟩ := Option.map_eq_some_iff.1 h
        simp only [Prod.mk.injEq] at he
        obtain ⟨rfl, rfl, rfl⟩ := he
        obtain ⟨h1, h2, h3, h4, h5, h6⟩ := decVs_canon ih false n q ks' vs' r' hs
        obtain ⟨g1, g2, g3⟩ := ih l v q hv
        obtain rfl := h4 rfl
        refine ⟨?_, by simp [h2], (fun h => by cases h), fun _ => rfl, ?_, g3, h6⟩
        · simp only [encVs, List.tail_nil]
          rw [if_neg (by decide), List.nil_append, List.append_assoc, ← h1]; exact g1
        · simp only [formVs, List.tail_nil]
          rw [if_neg (by simp), if_pos g2]; exact h5
    | true =>
      simp only [decVs] at h
      rw [if_pos (by decide)] at h
      cases ht : decT 32 l with
      | none => rw [ht] at h; cases h
      | some p0 =>
        obtain ⟨s, q0⟩ := p0
        rw [ht] at h
        simp only at h
        cases hv : decV f q0 with
        | none => rw [hv] at h; cases h
        | some p =>
          obtain ⟨v, q⟩ := p
          rw [hv] at h
          simp only at h
          obtain ⟨⟨ks', vs', r'⟩, hs, he⟩ := Option.map_eq_some_iff.1 h
          simp only [Prod.mk.injEq] at he
          obtain ⟨rfl, rfl, rfl⟩ := he
          obtain ⟨h1, h2, h3, h4, h5, h6⟩ := decVs_canon ih true n q ks' vs' r' hs
          obtain ⟨g1, g2, g3⟩ := ih q0 v q hv
          obtain ⟨k1, k2⟩ := decT_canon ht
          refine ⟨?_, by simp [h2], fun _ => by simp [h3 rfl], (fun h => by cases h), ?_, g3, h6⟩
          · simp only [encVs, List.tail_cons, List.headD_cons]
            rw [if_pos (by decide), List.append_assoc, List.append_assoc, ← h1, ← g1]; exact k1
          · simp only [formVs, List.tail_cons, List.headD_cons]
            rw [if_neg (fun h => by have := h.2; omega), if_pos g2]; exact h5
theorem decV_canon : ∀ (f d : Nat), d + f = 24 → ∀ (l : List UInt8) (t : VT) (r : List UInt8), decV f l = some (t, r) → l = encV t ++ r ∧ formV t d = true ∧ SmallV t := by
  intro f
  induction f with
  | zero => intro d hd l t r h; simp only [decV] at h; cases h
  | succ f ih =>
    intro d hd l t r h
    simp only [decV] at h
    cases hu : decU 8 l with
    | none => rw [hu] at h; cases h
    | some p0 =>
      obtain ⟨k, q⟩ := p0
      rw [hu] at h
      simp only at h
      have hl := decU_canon hu
      have hk := (decU_le hu).1
      by_cases k1 : k = 1
      · subst k1
        rw [if_pos rfl] at h
        obtain ⟨⟨x, r'⟩, hi, he⟩ := Option.map_eq_some_iff.1 h
        simp only [Prod.mk.injEq] at he
        obtain ⟨rfl, rfl⟩ := he
        obtain ⟨g1, g2, g3⟩ := decI_canon hi
        refine ⟨?_, ?_, by simp only [SmallV, SmallVs]; exact ⟨⟨g2, g3⟩, trivial⟩⟩
        · simp only [encV]; rw [if_pos (by decide), List.append_assoc, ← g1]; exact hl
        · simp only [formV, formVs]; rw [if_pos ⟨by omega, by omega, by simp, by simp, (fun _ => .inl rfl), (fun h => absurd rfl h), (fun h => absurd rfl h), (fun h => by omega), fun _ => rfl⟩]
      rw [if_neg k1] at h
      by_cases k3 : k = 3
      · subst k3
        rw [if_pos rfl] at h
        obtain ⟨⟨x, r'⟩, hi, he⟩ := Option.bind_eq_some_iff.1 h
        simp only at he
        split at he
        · rename_i hx
          simp only [Option.some.injEq, Prod.mk.injEq] at he
          obtain ⟨rfl, rfl⟩ := he
          obtain ⟨g1, g2, g3⟩ := decI_canon hi
          refine ⟨?_, ?_, by simp only [SmallV, SmallVs]; exact ⟨⟨g2, g3⟩, trivial⟩⟩
          · simp only [encV]; rw [if_pos (by decide), List.append_assoc, ← g1]; exact hl
          · simp only [formV, formVs]; rw [if_pos ⟨by omega, by omega, by simp, by simp, (fun h => .inr ⟨rfl, by omega⟩), (fun h => absurd rfl h), (fun h => absurd rfl h), (fun h => by omega), fun _ => rfl⟩]
        · cases he
      rw [if_neg k3] at h
      by_cases kt : k = 2 ∨ k = 4 ∨ k = 7 ∨ k = 8
      · rw [if_pos kt] at h
        obtain ⟨⟨s, r'⟩, hi, he⟩ := Option.map_eq_some_iff.1 h
        simp only [Prod.mk.injEq] at he
        obtain ⟨rfl, rfl⟩ := he
        obtain ⟨g1, g2⟩ := decT_canon hi
        refine ⟨?_, ?_, by simp only [SmallV, SmallVs]; exact ⟨by omega, trivial⟩⟩
        · simp only [encV]; rw [if_neg (by omega), if_pos kt, List.append_assoc, ← g1]; exact hl
        · simp only [formV, formVs]
          rw [if_pos ⟨by omega, hk, by simp, g2, (fun h => absurd rfl h), fun _ => kt, (fun h => absurd rfl h), (fun h => by omega), fun _ => rfl⟩]
      rw [if_neg kt] at h
      by_cases kl : k = 5 ∨ k = 6
      · rw [if_pos kl] at h
        cases hn : decU 200 q with
        | none => rw [hn] at h; cases h
        | some p1 =>
          obtain ⟨n, q1⟩ := p1
          rw [hn] at h
          simp only at h
          obtain ⟨⟨ks, vs, r'⟩, hs, he⟩ := Option.map_eq_some_iff.1 h
          simp only [Prod.mk.injEq] at he
          obtain ⟨rfl, rfl⟩ := he
          obtain ⟨h1, h2, h3, h4, h5, h6⟩ := decVs_canon (d := d + 1) (fun l t r => ih (d + 1) (by omega) l t r) (decide (k = 6)) n q1 ks vs r' hs
          have hl2 := decU_canon hn
          have hn2 := (decU_le hn).1
          refine ⟨?_, ?_, by simp only [SmallV]; exact ⟨by omega, h6⟩⟩
          · simp only [encV]; rw [if_neg (by omega), if_neg kt, if_pos kl, List.append_assoc, List.append_assoc, ← h1, h2, ← hl2]; exact hl
          · simp only [formV]
            have hd24 : d < 24 := by omega
            rw [if_pos ⟨hd24, hk, by omega, by simp, (fun h => absurd rfl h), (fun h => absurd rfl h), fun _ => kl, (fun h => by rw [h3 (by simpa using h), h2]), (fun h => h4 (by simpa using h))⟩]
            exact h5
      · rw [if_neg kl] at h
        simp only [Option.some.injEq, Prod.mk.injEq] at h
        obtain ⟨rfl, rfl⟩ := h
        refine ⟨?_, ?_, by simp only [SmallV, SmallVs]; exact ⟨by omega, trivial⟩⟩
        · simp only [encV]; rw [if_neg (by omega), if_neg kt, if_neg kl, List.append_nil]; exact hl
        · simp only [formV, formVs]
          rw [if_pos ⟨by omega, hk, by simp, by simp, (fun h => absurd rfl h), (fun h => absurd rfl h), (fun h => absurd rfl h), (fun h => by omega), fun _ => rfl⟩]
/-- A value's bytes that are cut short are none. -/
theorem cut_none {t : VT} (hs : SmallV t) (hf : formV t 0 = true) {p q : List UInt8} (he : p ++ q = encV t) (hq : q ≠ []) : decV 24 p = none := by
  cases hd : decV 24 p with
  | none => rfl
  | some x =>
    obtain ⟨u, r⟩ := x
    obtain ⟨h1, h2, h3⟩ := decV_canon 24 0 rfl p u r hd
    have g1 := decV_enc 24 0 rfl t [] hs hf
    have g2 := decV_enc 24 0 rfl u (r ++ q) h3 h2
    rw [List.append_nil, ← he, h1, List.append_assoc, g2] at g1
    injection g1 with g1
    injection g1 with _ g1
    exact absurd (List.append_eq_nil_iff.1 g1).2 hq
end Go.Proofs.Ytoojnpafcdaflaa
