/- The bytes of a value, read back: plain. -/
import Derived.Test.YtoojnpafcdaflaaRdx
import Derived.Test.YtoojnpafcdaflaaSaw
namespace Go.Proofs.Ytoojnpafcdaflaa
open Go Go.RowKit
set_option linter.unusedVariables false
set_option linter.unusedSimpArgs false

theorem decU_encA {most m : Nat} (r : List UInt8) (h64 : m < 18446744073709551616) (hle : m ≤ most) : decU most (encU m ++ r) = some (m, r) := by
  have := decGo_enc most 0 m 0 r (by decide) (by simpa using h64) (fun h => absurd h (by decide)) (by simpa using hle)
  simpa [decU] using this
theorem decGo_canon (most : Nat) : ∀ (l : List UInt8) (i n : Nat) {x : Nat} {r : List UInt8}, i ≤ 9 → decGo most i n l = some (x, r) → ∃ m, l = encU m ++ r ∧ x = n + m * 128 ^ i ∧ (0 < i → 0 < m)
  | [], _, _, x, r, _, h => by simp [decGo] at h
  | b :: l, i, n, x, r, hi, h => by
    have hb := b.toNat_lt
    have hbb : ∀ q : Nat, q = b.toNat → UInt8.ofNat q = b := by intro q hq; subst hq; simp
    simp only [decGo] at h
    split at h
    · cases h
    · rename_i hc
      split at h
      · rename_i hlt
        split at h
        · cases h
        · injection h with h
          injection h with h1 h2
          subst h1; subst h2
          refine ⟨b.toNat, ?_, rfl, fun hp => by omega⟩
          rw [encU_small hlt, hbb _ rfl]; rfl
      · rename_i hge
        have hi9 : i ≠ 9 := by omega
        obtain ⟨m, h1, h2, h3⟩ := decGo_canon most l (i + 1) _ (by omega) h
        have hm := h3 (by omega)
        refine ⟨m * 128 + b.toNat % 128, ?_, ?_, fun _ => by omega⟩
        · rw [encU_big (by omega)]
          have e1 : (m * 128 + b.toNat % 128) % 128 + 128 = b.toNat := by omega
          have e2 : (m * 128 + b.toNat % 128) / 128 = m := by omega
          rw [e1, e2, hbb _ rfl, List.cons_append, ← h1]
        · rw [h2, Nat.pow_succ, Nat.add_mul, Nat.mul_comm (128 ^ i) 128, ← Nat.mul_assoc]
          omega
theorem decU_canon {most : Nat} {l r : List UInt8} {x : Nat} (h : decU most l = some (x, r)) : l = encU x ++ r := by
  obtain ⟨m, h1, h2, _⟩ := decGo_canon most l 0 0 (by decide) h
  simp at h2
  subst h2; exact h1
theorem zig_unzig (x : Nat) : zig (unzig x) = x := by unfold zig unzig; split <;> split <;> omega
theorem unzig_range {x : Nat} (h : x < 18446744073709551616) : -9223372036854775808 ≤ unzig x ∧ unzig x ≤ 9223372036854775807 := by unfold unzig; split <;> omega
theorem decI_encA (i : Int) (r : List UInt8) (h0 : -9223372036854775808 ≤ i) (h1 : i ≤ 9223372036854775807) : decI (encU (zig i) ++ r) = some (i, r) := by
  unfold decI
  have := zig_lt h0 h1
  rw [decU_encA r this (by omega)]
  simp [unzig_zig]
theorem decI_canon {l r : List UInt8} {i : Int} (h : decI l = some (i, r)) : l = encU (zig i) ++ r ∧ -9223372036854775808 ≤ i ∧ i ≤ 9223372036854775807 := by
  unfold decI at h
  cases hd : decU 18446744073709551615 l with
  | none => rw [hd] at h; cases h
  | some p =>
    obtain ⟨x, q⟩ := p
    rw [hd] at h
    simp only [Option.map_some, Option.some.injEq, Prod.mk.injEq] at h
    obtain ⟨rfl, rfl⟩ := h
    have hx := (decU_le hd).1
    rw [zig_unzig]
    exact ⟨decU_canon hd, unzig_range (by omega)⟩
theorem decT_encA {most : Nat} (s r : List UInt8) (h64 : s.length < 18446744073709551616) (hle : s.length ≤ most) : decT most (encT s ++ r) = some (s, r) := by
  unfold decT encT
  rw [List.append_assoc, decU_encA _ h64 hle]
  simp
theorem decT_canon {most : Nat} {l r s : List UInt8} (h : decT most l = some (s, r)) : l = encT s ++ r ∧ s.length ≤ most := by
  unfold decT at h
  cases hd : decU most l with
  | none => rw [hd] at h; cases h
  | some p =>
    obtain ⟨x, q⟩ := p
    rw [hd] at h
    simp only at h
    split at h
    · cases h
    · rename_i hx
      simp only [Option.some.injEq, Prod.mk.injEq] at h
      obtain ⟨rfl, rfl⟩ := h
      have hl : (q.take x).length = x := by rw [List.length_take]; omega
      refine ⟨?_, by rw [hl]; exact (decU_le hd).1⟩
      unfold encT
      rw [hl, List.append_assoc, List.take_append_drop]
      exact decU_canon hd

/-! ### The reader's value -/
def decVs (dec : List UInt8 → Option (VT × List UInt8)) (o : Bool) : Nat → List UInt8 → Option (List (List UInt8) × List VT × List UInt8)
  | 0, l => some ([], [], l)
  | n + 1, l =>
    if o then
      match decT 32 l with
      | none => none
      | some (s, r) => match dec r with
        | none => none
        | some (v, q) => (decVs dec o n q).map fun p => (s :: p.1, v :: p.2.1, p.2.2)
    else
      match dec l with
      | none => none
      | some (v, q) => (decVs dec o n q).map fun p => (p.1, v :: p.2.1, p.2.2)
def decV : Nat → List UInt8 → Option (VT × List UInt8)
  | 0, _ => none
  | f + 1, l =>
    match decU 8 l with
    | none => none
    | some (k, r) =>
      if k = 1 then (decI r).map fun p => (.mk 1 p.1 [] [] [], p.2)
      else if k = 3 then (decI r).bind fun p => if p.1 = 0 ∨ p.1 = 1 then some (.mk 3 p.1 [] [] [], p.2) else none
      else if k = 2 ∨ k = 4 ∨ k = 7 ∨ k = 8 then (decT 200 r).map fun p => (.mk k 0 p.1 [] [], p.2)
      else if k = 5 ∨ k = 6 then
        match decU 200 r with
        | none => none
        | some (n, q) => (decVs (decV f) (decide (k = 6)) n q).map fun p => (.mk k 0 [] p.1 p.2.1, p.2.2)
      else some (.mk k 0 [] [] [], r)

theorem formVs_cons {o : Bool} {ks : List (List UInt8)} {v : VT} {vs : List VT} {d : Nat} (h : formVs o ks (v :: vs) d = true) : (o = true → (ks.headD []).length ≤ 32) ∧ formV v d = true ∧ formVs o ks.tail vs d = true := by
  simp only [formVs] at h
  split at h
  · cases h
  · rename_i hn
    split at h
    · rename_i hv
      refine ⟨fun ho => ?_, hv, h⟩
      by_cases hc : 32 < (ks.headD []).length
      · exact absurd ⟨ho, hc⟩ hn
      · omega
    · cases h
theorem formV_mk {k : Nat} {n : Int} {s : List UInt8} {ks : List (List UInt8)} {vs : List VT} {d : Nat} (h : formV (.mk k n s ks vs) d = true) : ownF d k n s ks vs ∧ formVs (decide (k = 6)) ks vs (d + 1) = true := by
  simp only [formV] at h
  split at h
  · exact ⟨by assumption, h⟩
  · cases h
mutual
/-- Each number is one of 64 bits. -/
def SmallV : VT → Prop
  | .mk k n s ks vs => (-9223372036854775808 ≤ n ∧ n ≤ 9223372036854775807) ∧ SmallVs vs
def SmallVs : List VT → Prop
  | [] => True
  | v :: vs => SmallV v ∧ SmallVs vs
end
mutual
theorem valAt_small {w : World} {G : Nat → Prop} : ∀ (t : VT) (cs : List Value), ValAt w G t cs → SmallV t
  | .mk k n s ks vs, cs, h => by
    simp only [ValAt] at h
    obtain ⟨ak, ck, av, cv, e, h1, h2, h3, h4, h5, h6, h7⟩ := h
    simp only [SmallV]
    refine ⟨h2, ?_⟩
    rcases Nat.eq_zero_or_pos vs.length with h0 | h0
    · rw [List.eq_nil_of_length_eq_zero h0]; trivial
    · obtain ⟨b, off, _, _, _, hr⟩ := h7 h0
      exact valsAt_small vs b off hr
theorem valsAt_small {w : World} {G : Nat → Prop} : ∀ (vs : List VT) (b off : Nat), ValsAt w G vs b off → SmallVs vs
  | [], _, _, _ => trivial
  | v :: vs, b, off, h => by
    simp only [ValsAt] at h
    obtain ⟨⟨cs, _, _, h1⟩, h2⟩ := h
    exact ⟨valAt_small v cs h1, valsAt_small vs b (off + 5) h2⟩
end
theorem decVs_enc' {f d : Nat} (ih : ∀ (t : VT) (r : List UInt8), SmallV t → formV t d = true → decV f (encV t ++ r) = some (t, r)) (o : Bool) : ∀ (vs : List VT) (ks : List (List UInt8)) (r : List UInt8), SmallVs vs → formVs o ks vs d = true → (o = true → ks.length = vs.length) → (o = false → ks = []) → decVs (decV f) o vs.length (encVs o ks vs ++ r) = some (ks, vs, r)
  | [], ks, r, _, _, h1, h2 => by
    have : ks = [] := by
      cases o
      · exact h2 rfl
      · exact List.eq_nil_of_length_eq_zero (h1 rfl)
    subst this
    simp [decVs, encVs]
  | v :: vs, ks, r, hsm, h, h1, h2 => by
    obtain ⟨g1, g2, g3⟩ := formVs_cons h
    cases o with
    | false =>
      obtain rfl := h2 rfl
      have hrec := decVs_enc' ih false vs [] r hsm.2 (by simpa using g3) (fun h => by cases h) (fun _ => rfl)
      simp only [List.length_cons, decVs, encVs, List.tail_nil]
      rw [if_neg (by decide), if_neg (by decide), List.nil_append, List.append_assoc, ih v _ hsm.1 g2]
      simp only
      rw [hrec]
      rfl
    | true =>
      cases ks with
      | nil => have := h1 rfl; simp at this
      | cons s ks =>
        have hrec := decVs_enc' ih true vs ks r hsm.2 (by simpa using g3) (fun _ => by have := h1 rfl; simpa using this) (fun h => by cases h)
        have hs := g1 rfl
        simp only [List.headD_cons] at hs
        simp only [List.length_cons, decVs, encVs, List.tail_cons, List.headD_cons]
        simp only [if_true]
        rw [List.append_assoc, List.append_assoc, decT_encA s _ (by omega) hs]
        simp only
        rw [ih v _ hsm.1 g2]
        simp only
        rw [hrec]
        rfl
theorem decV_enc : ∀ (f d : Nat), d + f = 24 → ∀ (t : VT) (r : List UInt8), SmallV t → formV t d = true → decV f (encV t ++ r) = some (t, r) := by
  intro f
  induction f with
  | zero =>
    intro d hd t r hsm h
    obtain ⟨k, n, s, ks, vs⟩ := t
    have := (formV_mk h).1.1
    omega
  | succ f ih =>
    intro d hd t r hsm h
    obtain ⟨k, n, s, ks, vs⟩ := t
    obtain ⟨⟨h1, h2, h3, h4, h5, h6, h7, h8, h9⟩, hvs⟩ := formV_mk h
    simp only [encV, decV]
    rw [List.append_assoc, decU_encA _ (by omega) h2]
    simp only
    simp only [SmallV] at hsm
    by_cases k1 : k = 1
    · subst k1
      have e1 : s = [] := Decidable.byContradiction (fun e => by have := h6 e; omega)
      have e2 : vs = [] := Decidable.byContradiction (fun e => by have := h7 e; omega)
      have e3 := h9 (by decide)
      subst e1; subst e2; subst e3
      rw [if_pos rfl, if_pos (by omega), decI_encA n r hsm.1.1 hsm.1.2]
      rfl
    rw [if_neg k1]
    by_cases k3 : k = 3
    · subst k3
      have e1 : s = [] := Decidable.byContradiction (fun e => by have := h6 e; omega)
      have e2 : vs = [] := Decidable.byContradiction (fun e => by have := h7 e; omega)
      have e3 := h9 (by decide)
      subst e1; subst e2; subst e3
      rw [if_pos rfl, if_pos (by omega), decI_encA n r hsm.1.1 hsm.1.2]
      simp only [Option.bind_some]
      have hn : n = 0 ∨ n = 1 := by
        by_cases hz : n = 0
        · exact .inl hz
        · have := h5 hz; omega
      rw [if_pos hn]
    rw [if_neg k3]
    have hn : n = 0 := Decidable.byContradiction (fun e => by have := h5 e; omega)
    subst hn
    by_cases kt : k = 2 ∨ k = 4 ∨ k = 7 ∨ k = 8
    · have e2 : vs = [] := Decidable.byContradiction (fun e => by have := h7 e; omega)
      have e3 := h9 (by omega)
      subst e2; subst e3
      rw [if_pos kt, if_neg (by omega), if_pos kt, decT_encA s r (by omega) h4]
      rfl
    rw [if_neg kt]
    have e1 : s = [] := Decidable.byContradiction (fun e => by have := h6 e; omega)
    subst e1
    by_cases kl : k = 5 ∨ k = 6
    · rw [if_pos kl, if_neg (by omega), if_neg kt, if_pos kl, List.append_assoc, decU_encA _ (by omega) h3]
      simp only
      rw [decVs_enc' (d := d + 1) (fun t r => ih (d + 1) (by omega) t r) (decide (k = 6)) vs ks r hsm.2 hvs (fun ho => h8 (by simpa using ho)) (fun ho => h9 (by simpa using ho))]
      rfl
    · rw [if_neg kl, if_neg (by omega), if_neg kt, if_neg kl]
      have e2 : vs = [] := Decidable.byContradiction (fun e => by have := h7 e; omega)
      have e3 := h9 (by omega)
      subst e2; subst e3
      simp
/-- Two values of the form are one just if their bytes are. -/
theorem enc_inj {t u : VT} (h1 : SmallV t) (h2 : SmallV u) (f1 : formV t 0 = true) (f2 : formV u 0 = true) (he : encV t = encV u) : t = u := by
  have g1 := decV_enc 24 0 rfl t [] h1 f1
  have g2 := decV_enc 24 0 rfl u [] h2 f2
  rw [he, g2] at g1
  injection g1 with g1
  injection g1 with g1 _
  exact g1.symm
theorem same_enc {t u : VT} (h1 : SmallV t) (h2 : SmallV u) (f1 : formV t 0 = true) (f2 : formV u 0 = true) : sameV t u = (encV t == encV u) := by
  rw [Bool.eq_iff_iff]
  simp only [beq_iff_eq]
  constructor
  · intro h; rw [sameV_eq t u h]
  · intro h; rw [enc_inj h1 h2 f1 f2 h]; exact sameV_refl u
mutual
theorem form_good : ∀ (t : VT) (d : Nat), formV t d = true → GoodV t
  | .mk k n s ks vs, d, h => by
    obtain ⟨⟨_, _, _, _, _, _, _, h8, _⟩, hvs⟩ := formV_mk h
    simp only [GoodV]
    exact ⟨h8, forms_good _ ks vs _ hvs⟩
theorem forms_good : ∀ (o : Bool) (ks : List (List UInt8)) (vs : List VT) (d : Nat), formVs o ks vs d = true → GoodVs vs
  | _, _, [], _, _ => trivial
  | o, ks, v :: vs, d, h => by
    obtain ⟨_, g2, g3⟩ := formVs_cons h
    exact ⟨form_good v d g2, forms_good o ks.tail vs d g3⟩
end
end Go.Proofs.Ytoojnpafcdaflaa
