/- A region that draws its order, two operations of which move things, in order; what is ahead of each sees nothing of it. Over any program. -/
import Derived.Test.YtgephneppgcnlaaDoorReg
namespace Go.Proofs.YtgephneppgcnlaaDoor
open Go Go.RowKit
set_option linter.unusedVariables false
set_option linter.unusedSimpArgs false
section
variable {P : Program} {ops : Array Oper} {Q : Exit → Act → World → Prop}
def mvW2 (s1 s2 : Nat) (F1 F2 : Nat → Prop) (Bl Bl2 : List Nat) (k : Nat) : Nat → Prop :=
  if (k == s1 || Bl.contains k) = true then (if (k == s2 || Bl2.contains k) = true then fun _ => False else F2) else (if (k == s2 || Bl2.contains k) = true then F1 else fun q => F1 q ∨ F2 q)
theorem wp_region_mv2 {id : Nat} {l : List Oper} {a0 : Act} {w : World} (m : Nat) (hm : P.follows .mixedOrders = true) (hsz : l.toArray.size = m + 1) (hsh : shapeB l.toArray m = true) (ds : List (Option Tmp)) (hds : (l.take m).map (·.dst) = ds) (hap : apartB ds = true)
    (s1 s2 : Nat) (F1 F2 : Nat → Prop) (A : List Nat) (hA : hangB l.toArray m s1 A = true) (Bl : List Nat) (hBl : preB l.toArray m s1 Bl = true) (Bl2 : List Nat) (hBl2 : s2 < m → preB l.toArray m s2 Bl2 = true) (hs : s1 ≠ s2) (hs1 : s1 < m) (hs2 : m < s2 ∨ (s2 < m ∧ s2 ∈ A))
    (R : Nat → Value → World → Prop) (hmono : ∀ i v w w', R i v w → Only (mvS s1 s2 F1 F2 A i) w w' → R i v w')
    (step : ∀ i o, i < m → l.toArray[i]? = some o → ∀ x w', Only (mvW2 s1 s2 F1 F2 Bl Bl2 i) w.drew w' → (∀ e ∈ o.after, Region.binds .any e = true → R e.on (x e.on) w') → StepTo P l.toArray o (putAll ds 0 x a0) w' (fun v w2 => R i v w2 ∧ Only (mvE s1 s2 F1 F2 i) w' w2))
    (last : ∀ o, l.toArray[m]? = some o → ∀ x w', Only (fun q => F1 q ∨ F2 q) w.drew w' → (∀ i, i < m → R i (x i) w') → wpList P l.toArray Q [o] (putAll ds 0 x a0) w') : (Code.region id l.toArray true).wp P Q a0 w := by
  have hnd : ∀ i, i ≤ m → ¬ Did (Array.replicate (m + 1) false) i := fun i hi h => by
    unfold Did at h
    simp only [Array.getD_eq_getD_getElem?] at h; rw [Array.getElem?_replicate, if_pos (by omega)] at h; simp at h
  refine wp_region_core m hm hsz hsh ds hds hap (fun listed x w' => Only (fun q => (Did listed s1 ∧ F1 q) ∨ ((s2 < m ∧ Did listed s2) ∧ F2 q)) w.drew w' ∧ ∀ i, i < m → Did listed i → R i (x i) w') (fun x => ⟨Only.refl _ _, fun i hi h => absurd h (hnd i (by omega))⟩) (fun i o listed x w' hi ho hl hcl hn hdep hJ => ?_) (fun o listed x w' ho hall hJ => last o ho x w' (hJ.1.mono (fun q _ h => h.imp (·.2) (·.2))) (fun i hi => hJ.2 i hi (hall i hi)))
  have h12 : s2 < m → Did listed s2 → Did listed s1 := fun hlt hd => by
    rcases hs2 with h | ⟨_, h⟩
    · omega
    · exact hang_did hl hsh hA hcl s2 h hd
  have hW : Only (mvW2 s1 s2 F1 F2 Bl Bl2 i) w.drew w' := by
    have hn1 : (i == s1 || Bl.contains i) = true → ¬ Did listed s1 := fun e h => by
      simp only [Bool.or_eq_true, beq_iff_eq, List.contains_eq_mem, decide_eq_true_eq] at e
      rcases e with e | e
      · exact hn (e ▸ h)
      · exact hn (pre_did hl hsh hBl hcl h _ i (Nat.le_refl _) e)
    have hn2 : (i == s2 || Bl2.contains i) = true → s2 < m → ¬ Did listed s2 := fun e h0 h => by
      simp only [Bool.or_eq_true, beq_iff_eq, List.contains_eq_mem, decide_eq_true_eq] at e
      rcases e with e | e
      · exact hn (e ▸ h)
      · exact hn (pre_did hl hsh (hBl2 h0) hcl h _ i (Nat.le_refl _) e)
    unfold mvW2
    split
    · rename_i e1
      split
      · rename_i e2
        exact hJ.1.mono (fun q _ h => by
          rcases h with ⟨h, _⟩ | ⟨⟨h0, h⟩, _⟩
          · exact hn1 e1 h
          · exact hn2 e2 h0 h)
      · exact hJ.1.mono (fun q _ h => by
          rcases h with ⟨h, _⟩ | ⟨⟨h0, h⟩, h2⟩
          · exact absurd h (hn1 e1)
          · exact h2)
    · split
      · rename_i e2
        exact hJ.1.mono (fun q _ h => by
          rcases h with ⟨_, h⟩ | ⟨⟨h0, h⟩, _⟩
          · exact h
          · exact absurd h (hn2 e2 h0))
      · exact hJ.1.mono (fun q _ h => h.imp (·.2) (·.2))
  refine (step i o hi ho x w' hW (fun e he hb => hJ.2 _ (by have := (hdep e he hb).1; omega) (hdep e he hb).2)).mono (fun v w2 hv => ⟨?_, fun j hj hd => ?_⟩)
  · have h1 : Only (fun q => (Did (listed.setIfInBounds i true) s1 ∧ F1 q) ∨ ((s2 < m ∧ Did (listed.setIfInBounds i true) s2) ∧ F2 q)) w.drew w' := hJ.1.mono (fun q _ h => h.imp (fun h => ⟨(did_set hl (by omega)).2 (.inr h.1), h.2⟩) (fun h => ⟨⟨h.1.1, (did_set hl (by omega)).2 (.inr h.1.2)⟩, h.2⟩))
    refine h1.trans (hv.2.mono (fun q _ h => ?_))
    unfold mvE at h
    split at h
    · rename_i e; exact .inl ⟨(did_set hl (by omega)).2 (.inl e.symm), h⟩
    · split at h
      · rename_i e; exact .inr ⟨⟨by omega, (did_set hl (by omega)).2 (.inl e.symm)⟩, h⟩
      · exact h.elim
  · by_cases e' : j = i
    · subst e'; rw [upd_same]; exact hv.1
    · rw [upd_other x v e']
      have hdj : Did listed j := ((did_set hl (by omega)).1 hd).resolve_left e'
      refine hmono j _ _ _ (hJ.2 j hj hdj) (hv.2.mono (fun q _ h => ?_))
      unfold mvE at h
      unfold mvS
      split at h
      · rename_i e
        -- s1 is being carried out: neither s2 nor what hangs on it was ahead of it
        have hj1 : j ≠ s1 := fun h => e' (h.trans e.symm)
        split
        · rename_i ej
          rcases hs2 with hp | ⟨hp, _⟩
          · omega
          · exact absurd (e ▸ h12 hp (ej ▸ hdj)) hn
        · split
          · rename_i hor
            simp only [Bool.or_eq_true, beq_iff_eq, List.contains_eq_mem, decide_eq_true_eq] at hor
            rcases hor with hor | hor
            · exact absurd hor hj1
            · exact absurd (e ▸ hang_did hl hsh hA hcl j hor hdj) hn
          · exact .inl h
      · split at h
        · rename_i e1 e
          have hj2 : j ≠ s2 := fun h => e' (h.trans e.symm)
          rw [if_neg hj2]
          split
          · exact h
          · exact .inr h
        · exact h.elim
def StepsM2 (P : Program) (ops : Array Oper) (s1 s2 : Nat) (F1 F2 : Nat → Prop) (Bl Bl2 : List Nat) (Rs : List (Value → World → Prop)) (ds : List (Option Tmp)) (a0 : Act) (w0 : World) : List Oper → List (Value → World → Prop) → Nat → Prop
  | o :: os, r :: rs, k => (∀ x w', Only (mvW2 s1 s2 F1 F2 Bl Bl2 k) w0 w' → Needs Rs x w' o.after.toList → ∀ T : Value → World → Prop, Hid (∀ v w2, r v w2 → Only (mvE s1 s2 F1 F2 k) w' w2 → T v w2) → StepTo P ops o (putAll ds 0 x a0) w' T) ∧ StepsM2 P ops s1 s2 F1 F2 Bl Bl2 Rs ds a0 w0 os rs (k + 1)
  | _, _, _ => True
theorem stepsM2_get {s1 s2 : Nat} {F1 F2 : Nat → Prop} {Bl Bl2 : List Nat} {Rs : List (Value → World → Prop)} {ds : List (Option Tmp)} {a0 : Act} {w0 : World} : ∀ (os : List Oper) (rs : List (Value → World → Prop)) (k i : Nat) (o : Oper), StepsM2 P ops s1 s2 F1 F2 Bl Bl2 Rs ds a0 w0 os rs k → i < rs.length → os[i]? = some o →
    ∀ x w', Only (mvW2 s1 s2 F1 F2 Bl Bl2 (k + i)) w0 w' → Needs Rs x w' o.after.toList → StepTo P ops o (putAll ds 0 x a0) w' (fun v w2 => rs.getD i (fun _ _ => True) v w2 ∧ Only (mvE s1 s2 F1 F2 (k + i)) w' w2)
  | [], _, _, i, o, _, _, ho => by simp at ho
  | _ :: _, [], _, i, o, _, hi, _ => by simp at hi
  | o' :: os, r :: rs, k, 0, o, h, _, ho => by
    simp at ho; subst ho
    exact fun x w' hO hN => h.1 x w' hO hN _ (Lib.hid (fun v w2 h1 h2 => ⟨h1, h2⟩))
  | o' :: os, r :: rs, k, i + 1, o, h, hi, ho => by
    have := stepsM2_get os rs (k + 1) i o h.2 (by simpa using hi) (by simpa using ho)
    rw [show k + 1 + i = k + (i + 1) from by omega] at this
    simpa using this
theorem wp_region_stepsM2 {id : Nat} {l : List Oper} {a0 : Act} {w : World} (m : Nat) (hm : P.follows .mixedOrders = true) (hsz : l.length = m + 1) (hsh : shapeB l.toArray m = true) (ds : List (Option Tmp)) (hds : (l.take m).map (·.dst) = ds) (hap : apartB ds = true)
    (s1 s2 : Nat) (F1 F2 : Nat → Prop) (A : List Nat) (hA : hangB l.toArray m s1 A = true) (Bl : List Nat) (hBl : preB l.toArray m s1 Bl = true) (Bl2 : List Nat) (hBl2 : s2 < m → preB l.toArray m s2 Bl2 = true) (hs : s1 ≠ s2) (hs1 : s1 < m) (hs2 : m < s2 ∨ (s2 < m ∧ s2 ∈ A))
    (Rs : List (Value → World → Prop)) (hRs : Rs.length = m) (hst : StableM s1 s2 F1 F2 A Rs 0) (ol : Oper) (hol : l[m]? = some ol)
    (step : StepsM2 P l.toArray s1 s2 F1 F2 Bl Bl2 Rs ds a0 w.drew l Rs 0)
    (last : ∀ x w', Only (fun q => F1 q ∨ F2 q) w.drew w' → Holds Rs x 0 w' → wpList P l.toArray Q [ol] (putAll ds 0 x a0) w') : (Code.region id l.toArray true).wp P Q a0 w := by
  refine wp_region_mv2 m hm (by simpa using hsz) hsh ds hds hap s1 s2 F1 F2 A hA Bl hBl Bl2 hBl2 hs hs1 hs2 (fun i => Rs.getD i (fun _ _ => True)) (fun i v w w' h ho => by have := stableM_get Rs 0 i hst; rw [Nat.zero_add] at this; exact this v w w' h ho) (fun i o hi ho x w' hO hR => ?_) (fun o ho x w' hO hR => ?_)
  · have := stepsM2_get l Rs 0 i o step (by omega) (by simpa using ho) x w'
    rw [Nat.zero_add] at this
    exact this hO (needs_of _ (fun e he hb => hR e (by simpa using he) hb))
  · have : o = ol := by
      have h : l[m]? = some o := by simpa using ho
      rw [hol] at h; injection h with h; exact h.symm
    subst this
    refine last x w' hO (holds_of Rs 0 (fun i hi => ?_))
    rw [Nat.zero_add]; exact hR i (by omega)
end
end Go.Proofs.YtgephneppgcnlaaDoor
