/- The types' texts tell the types, where names are letters. -/
import Derived.Test.YtnkpoddbbdmipaaGreatDoorNaTyt
namespace Go.Proofs.YtnkpoddbbdmipaaGreatDoor
open Go Go.RowKit
set_option linter.unusedVariables false
set_option linter.unusedSimpArgs false

theorem typI_nm (s : List UInt8) (b : Bool) : ren (typI (.nm s b)) = s ++ (if b then [33] else []) := by
  rw [typI, ren_cons]; cases b <;> rfl
theorem typI_ls (t : TR) (b : Bool) : ren (typI (.ls t b)) = 91 :: (ren (typI t) ++ 93 :: (if b then [33] else [])) := by
  rw [typI, ren_cons, ren_app, ren_cons]; cases b <;> simp [bangI, ren, It.src, sgI]
theorem plain_last {s : List UInt8} (h : s.all plainL = true) (hn : s ≠ []) : ∃ c, s.getLast? = some c ∧ c ≠ 33 ∧ c ≠ 93 ∧ c ≠ 91 := by
  obtain ⟨c, hc⟩ : ∃ c, s.getLast? = some c := by
    cases h2 : s.getLast? with
    | none => rw [List.getLast?_eq_none_iff] at h2; exact absurd h2 hn
    | some c => exact ⟨c, rfl⟩
  have hm := List.mem_of_getLast? hc
  have := List.all_eq_true.1 h c hm
  simp only [plainL, Bool.and_eq_true, decide_eq_true_eq] at this
  refine ⟨c, hc, ?_, ?_, ?_⟩ <;> (rintro rfl; revert this; decide)
theorem plain_first {s : List UInt8} (h : s.all plainL = true) (hn : s ≠ []) : ∃ c r, s = c :: r ∧ c ≠ 91 := by
  cases s with
  | nil => exact absurd rfl hn
  | cons c r =>
    refine ⟨c, r, rfl, ?_⟩
    have := List.all_eq_true.1 h c (by simp)
    simp only [plainL, Bool.and_eq_true, decide_eq_true_eq] at this
    rintro rfl; revert this; decide
theorem plainB_nm {s : List UInt8} {b : Bool} (h : plainB (.nm s b) = true) : s.all plainL = true ∧ s ≠ [] := by
  simp only [plainB, Bool.and_eq_true] at h
  refine ⟨h.1, fun e => ?_⟩
  rw [e] at h; simp at h
/-- A text's end tells whether there is a bang. -/
theorem bang_last : ∀ {a a' : List UInt8} {b b' : Bool} {x x' : UInt8}, x ≠ 33 → x' ≠ 33 → a.getLast? = some x → a'.getLast? = some x' → a ++ (if b then [33] else []) = a' ++ (if b' then [33] else []) → a = a' ∧ b = b'
  | a, a', b, b', x, x', hx, hx', h, h', e => by
    cases b <;> cases b'
    · simp at e; exact ⟨e, rfl⟩
    · have := congrArg List.getLast? e
      simp at this
      rw [h] at this; injection this with this; exact absurd this hx
    · have := congrArg List.getLast? e
      simp at this
      rw [h'] at this; injection this with this; exact absurd this.symm hx'
    · exact ⟨List.append_cancel_right e, rfl⟩
theorem typ_inj : ∀ (t u : TR), plainB t = true → plainB u = true → ren (typI t) = ren (typI u) → t = u
  | .nm s b, .nm s' b', h, h', e => by
    obtain ⟨h1, h2⟩ := plainB_nm h
    obtain ⟨h1', h2'⟩ := plainB_nm h'
    rw [typI_nm, typI_nm] at e
    obtain ⟨x, q1, q2, -, -⟩ := plain_last h1 h2
    obtain ⟨x', q1', q2', -, -⟩ := plain_last h1' h2'
    obtain ⟨rfl, rfl⟩ := bang_last q2 q2' q1 q1' e
    rfl
  | .ls t b, .ls u b', h, h', e => by
    rw [typI_ls, typI_ls] at e
    injection e with _ e
    have e2 : (ren (typI t) ++ [93]) ++ (if b then [33] else []) = (ren (typI u) ++ [93]) ++ (if b' then [33] else []) := by simpa using e
    obtain ⟨e3, rfl⟩ := bang_last (x := 93) (x' := 93) (by decide) (by decide) (by simp) (by simp) e2
    rw [typ_inj t u h h' (List.append_cancel_right e3)]
  | .nm s b, .ls u b', h, h', e => by
    obtain ⟨h1, h2⟩ := plainB_nm h
    obtain ⟨c, r, rfl, hc⟩ := plain_first h1 h2
    rw [typI_nm, typI_ls] at e
    injection e with e _; exact absurd e hc
  | .ls t b, .nm s' b', h, h', e => by
    obtain ⟨h1, h2⟩ := plainB_nm h'
    obtain ⟨c, r, rfl, hc⟩ := plain_first h1 h2
    rw [typI_nm, typI_ls] at e
    injection e with e _; exact absurd e.symm hc
/-- How long a text is. -/
theorem typ_len : ∀ (n : Nat) (t : TT), TSz t → smallB n t = true → (ren (typI (toTR t))).length ≤ 140737488351232 + 3 * n
  | 0, _, _, h => by cases h
  | n + 1, .mk s of b, hz, h => by
    cases hz with
    | mk _ _ _ hs ho =>
    match of, h, ho with
    | [], h, ho =>
      simp only [toTR]
      rw [typI_nm, List.length_append]; cases b <;> simp <;> omega
    | [t], h, ho =>
      simp only [smallB, Bool.and_eq_true, decide_eq_true_eq] at h
      have := typ_len n t (ho t (by simp)) h.2
      simp only [toTR]
      rw [typI_ls, List.length_cons, List.length_append, List.length_cons]; cases b <;> simp <;> omega
    | _ :: _ :: _, h, ho => cases h
end Go.Proofs.YtnkpoddbbdmipaaGreatDoor
