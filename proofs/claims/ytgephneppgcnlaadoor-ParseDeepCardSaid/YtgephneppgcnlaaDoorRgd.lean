/- A region that draws its order, one operation of which leaves it by a panic: one goal for each operation that may come ahead of it, and one for it. Over any program. -/
import Derived.Test.YtgephneppgcnlaaDoorReg
namespace Go.Proofs.YtgephneppgcnlaaDoor
open Go Go.RowKit
set_option linter.unusedVariables false
set_option linter.unusedSimpArgs false
section
variable {P : Program} {ops : Array Oper} {Q : Exit → Act → World → Prop}
/-- One operation, alone: it yields, or it leaves. -/
def StepX (P : Program) (ops : Array Oper) (Q : Exit → Act → World → Prop) (o : Oper) (a : Act) (w : World) (T : Value → World → Prop) : Prop :=
  wpList P ops (fun e a' w' => Stepped o a T e a' w' ∨ (e ≠ .normal ∧ Q e a' w')) [o] a w
theorem oper_wp_x {o : Oper} {a : Act} {w : World} {K K' : Act → World → Prop} {Q' : Exit → Act → World → Prop} (hK : ∀ a w, K a w → K' a w) (hQ : ∀ e a w, e ≠ .normal → Q' e a w → Q e a w) (h : o.wp P a w K Q') : o.wp P a w K' Q := by
  unfold Oper.wp at *
  generalize (execOp a.eval o).run P w = r at *
  cases r with
  | ok n w' =>
    cases n <;> simp only [Oper.upon] at h ⊢ <;>
      first
        | exact hK _ _ h
        | exact Calls.mono h (fun e w'' he => by
            cases e with
            | returned v => exact hK _ _ he
            | panicked c => exact hQ _ _ _ (by simp) he
            | outgrown => obtain ⟨a1, w1, h1⟩ := he; exact ⟨a1, w1, hQ _ _ _ (by simp) h1⟩)
        | exact Rows.mono h (fun _ _ he => hK _ _ he)
  | halt x w' =>
    cases x <;> simp only [Oper.upon] at h ⊢ <;> first | exact h | exact hQ _ _ _ (by simp) h
theorem StepX.op {o : Oper} {i : Nat} {a : Act} {w : World} {T : Value → World → Prop} {K : Act → World → Prop} (hi : ops[i]? = some o) (h : StepX P ops Q o a w T) (hK : ∀ v w', T v w' → K (a.put o.dst v) w') : wpOp P ops Q i K a w := by
  unfold StepX wpList at h
  unfold wpOp
  simp only [hi]
  have hn : ∀ a' w', (Stepped o a T .normal a' w' ∨ (Exit.normal ≠ .normal ∧ Q .normal a' w')) → K a' w' := fun a' w' h => by
    rcases h with ⟨_, v, rfl, ht⟩ | ⟨h, _⟩
    · exact hK v w' ht
    · exact absurd rfl h
  have hx : ∀ e a' w', e ≠ .normal → (Stepped o a T e a' w' ∨ (e ≠ .normal ∧ Q e a' w')) → Q e a' w' := fun e a' w' hne h => by
    rcases h with ⟨h, _⟩ | ⟨_, h⟩
    · exact absurd h hne
    · exact h
  split
  · rename_i hw
    rw [if_pos hw] at h
    rcases h with h | ⟨h0, a1, w1, h1⟩
    · exact .inl (oper_wp_x (fun a' w' h => hn a' w' h) hx h)
    · exact .inr ⟨h0, a1, w1, hx _ _ _ (by simp) h1⟩
  · rename_i hw
    rw [if_neg hw] at h
    exact hn _ _ h
theorem StepTo.x {o : Oper} {a : Act} {w : World} {T : Value → World → Prop} (h : StepTo P ops o a w T) : StepX P ops Q o a w T := by
  unfold StepTo wpList at h
  unfold StepX wpList
  split
  · rename_i hw
    rw [if_pos hw] at h
    rcases h with h | ⟨_, a1, w1, h1⟩
    · exact .inl (oper_wp_x (fun a' w' h => .inl h) (fun e a' w' hne h => absurd h.1 hne) h)
    · cases h1.1
  · rename_i hw
    rw [if_neg hw] at h
    exact .inl h
theorem StepX.mono {o : Oper} {a : Act} {w : World} {T T' : Value → World → Prop} (h : StepX P ops Q o a w T) (hT : ∀ v w', T v w' → T' v w') : StepX P ops Q o a w T' := by
  unfold StepX wpList at h ⊢
  split
  · rename_i hw
    rw [if_pos hw] at h
    refine h.imp (oper_wp_x (fun a' w' h => ?_) (fun e a' w' hne h => ?_)) (fun ⟨h0, a1, w1, h1⟩ => ⟨h0, a1, w1, ?_⟩)
    · exact h.imp (fun ⟨h1, v, h2, h3⟩ => ⟨h1, v, h2, hT _ _ h3⟩) id
    · exact h.imp (fun ⟨h1, v, h2, h3⟩ => ⟨h1, v, h2, hT _ _ h3⟩) id
    · exact h1.imp (fun ⟨h1, v, h2, h3⟩ => ⟨h1, v, h2, hT _ _ h3⟩) id
  · rename_i hw
    rw [if_neg hw] at h
    exact h.imp (fun ⟨h1, v, h2, h3⟩ => ⟨h1, v, h2, hT _ _ h3⟩) id
/-- The core, where an operation may leave the region. -/
theorem wp_coreX {m : Nat} (hsz : ops.size = m + 1) (hsh : shapeB ops m = true) (ds : List (Option Tmp)) (hds : (ops.toList.take m).map (·.dst) = ds) (hap : apartB ds = true) (a0 : Act)
    (J : Array Bool → (Nat → Value) → World → Prop)
    (step : ∀ i o listed x w, i < m → ops[i]? = some o → listed.size = m + 1 → Closed ops m listed → ¬ Did listed i → (∀ e ∈ o.after, Region.binds .any e = true → e.on < i ∧ Did listed e.on) → J listed x w → StepX P ops Q o (putAll ds 0 x a0) w (fun v w' => J (listed.setIfInBounds i true) (upd x i v) w'))
    (last : ∀ o listed x w, ops[m]? = some o → (∀ i, i < m → Did listed i) → J listed x w → wpList P ops Q [o] (putAll ds 0 x a0) w) :
    ∀ (fuel : Nat) (listed : Array Bool) (x : Nat → Value) (w : World), listed.size = m + 1 → listed.getD m true = false → ((List.range (m + 1)).filter (fun i => !listed.getD i true)).length ≤ fuel → Closed ops m listed → J listed x w → wpAny P .any ops Q fuel listed (putAll ds 0 x a0) w := by
  have hready : ∀ listed : Array Bool, listed.size = m + 1 → listed.getD m true = false → Region.ready .any ops listed ≠ [] := by
    intro listed hl hm hnil
    have key : ∀ n, n ≤ m → listed.getD n true = false → (∀ j, j < n → listed.getD j true = true) → False := by
      intro n hn hnl hall
      obtain ⟨o, ho⟩ : ∃ o, ops[n]? = some o := ⟨ops[n], Array.getElem?_eq_getElem (by omega)⟩
      have hmem : n ∈ Region.ready .any ops listed := mem_ready.2 ⟨by omega, hnl, o, ho, fun e he hb => getD_false (by have := shape_back hsh hn ho e he hb; omega) (hall e.on (shape_back hsh hn ho e he hb))⟩
      rw [hnil] at hmem; cases hmem
    have hex : ∃ n, n ≤ m ∧ listed.getD n true = false ∧ ∀ j, j < n → listed.getD j true = true := by
      have : ∀ k, k ≤ m + 1 → (∃ n, n < k ∧ listed.getD n true = false ∧ ∀ j, j < n → listed.getD j true = true) ∨ ∀ j, j < k → listed.getD j true = true := by
        intro k
        induction k with
        | zero => intro _; exact .inr (fun j hj => by omega)
        | succ k ih =>
          intro hk
          rcases ih (by omega) with ⟨n, h1, h2, h3⟩ | h
          · exact .inl ⟨n, by omega, h2, h3⟩
          · cases hq : listed.getD k true with
            | false => exact .inl ⟨k, by omega, hq, h⟩
            | true => exact .inr (fun j hj => by
                rcases Nat.lt_or_ge j k with h1 | h1
                · exact h j h1
                · obtain rfl : j = k := by omega
                  exact hq)
      rcases this (m + 1) (Nat.le_refl _) with ⟨n, h1, h2, h3⟩ | h
      · exact ⟨n, by omega, h2, h3⟩
      · have := h m (by omega); rw [hm] at this; cases this
    obtain ⟨n, h1, h2, h3⟩ := hex
    exact key n h1 h2 h3
  intro fuel
  induction fuel with
  | zero =>
    intro listed x w hl hm hf
    exfalso
    have : m ∈ (List.range (m + 1)).filter (fun i => !listed.getD i true) := by
      simp only [List.mem_filter, List.mem_range, Bool.not_eq_true']
      exact ⟨by omega, hm⟩
    rw [List.eq_nil_of_length_eq_zero (Nat.le_zero.1 hf)] at this
    cases this
  | succ fuel ih =>
    intro listed x w hl hm hf hcl hJ
    refine ⟨fun h => absurd h (hready listed hl hm), fun i hi => ?_⟩
    obtain ⟨hisz, hin, o, hio, hdep⟩ := mem_ready.1 hi
    rcases Nat.lt_or_ge i m with hlt | hge
    · have hdi : ds[i - 0]? = some o.dst := by
        rw [← hds, Nat.sub_zero, List.getElem?_map, List.getElem?_take, if_pos hlt]
        have : ops.toList[i]? = some o := by rw [Array.getElem?_toList]; exact hio
        rw [this]; rfl
      refine (step i o listed x w hlt hio hl hcl (by unfold Did; rw [hin]; simp) (fun e he hb => ⟨shape_back hsh (by omega) hio e he hb, getD_true (by have := shape_back hsh (by omega) hio e he hb; omega) (hdep e he hb)⟩) hJ).op hio (fun v w' hv => ?_)
      rw [putAll_upd ds 0 x a0 i o.dst v hap (Nat.zero_le _) hdi]
      refine ih _ _ _ (by simpa using hl) (by rw [set_getD hl (by omega), if_neg (by omega)]; exact hm) ?_ (fun j oj hoj hjm hlj e he hb => ?_) hv
      · have hlen : ((List.range (m + 1)).filter (fun j => !(listed.setIfInBounds i true).getD j true)).length < ((List.range (m + 1)).filter (fun j => !listed.getD j true)).length := by
          have hsub : (List.range (m + 1)).filter (fun j => !(listed.setIfInBounds i true).getD j true) = ((List.range (m + 1)).filter (fun j => !listed.getD j true)).filter (fun j => j != i) := by
            rw [List.filter_filter]
            apply List.filter_congr
            intro j hj
            rw [set_getD hl (by omega)]
            by_cases e : j = i
            · simp [e]
            · simp [e]
          rw [hsub]
          have hmem : i ∈ (List.range (m + 1)).filter (fun j => !listed.getD j true) := by
            simp only [List.mem_filter, List.mem_range, Bool.not_eq_true']
            exact ⟨by omega, hin⟩
          exact List.length_filter_lt_length_iff_exists.2 ⟨i, hmem, by simp⟩
        omega
      · rcases (did_set hl (by omega)).1 hlj with e' | e'
        · subst e'
          rw [hio] at hoj; injection hoj with hoj; subst hoj
          exact set_getD' (hdep e he hb)
        · exact set_getD' (hcl j oj hoj hjm e' e he hb)
    · obtain rfl : i = m := by omega
      have hall : ∀ n j, j < i → i - j ≤ n → Did listed j := by
        intro n
        induction n with
        | zero => intro j h1 h2; omega
        | succ n ihn =>
          intro j h1 h2
          obtain ⟨k, ok, hjk, hki, hok, e, he, hb, hon⟩ := shape_fore hsh h1
          have hf : listed.getD e.on false = true := by
            rcases Nat.lt_or_ge k i with hk | hk
            · exact hcl k ok hok (by omega) (ihn k hk (by omega)) e he hb
            · obtain rfl : k = i := by omega
              rw [hio] at hok; injection hok with hok; subst hok
              exact hdep e he hb
          rw [hon] at hf
          exact getD_true (by omega) hf
      refine last_op hio (last o listed x w hio (fun j hj => hall i j hj (by omega)) hJ) (fun a' w' hQ => wpAny_all ?_ hQ)
      refine List.filter_eq_nil_iff.2 (fun j hj => ?_)
      have hj' : j < i + 1 := by rw [← hsz]; simpa using hj
      have : (listed.setIfInBounds i true).getD j true = true := by
        rw [set_getD hl (Nat.le_refl _)]
        by_cases e : j = i
        · rw [if_pos e]
        · rw [if_neg e]; exact hall i j (by omega) (by omega)
      rw [this]; simp
theorem wp_region_coreX {id : Nat} {l : List Oper} {a0 : Act} {w : World} (m : Nat) (hm : P.follows .mixedOrders = true) (hsz : l.toArray.size = m + 1) (hsh : shapeB l.toArray m = true) (ds : List (Option Tmp)) (hds : (l.take m).map (·.dst) = ds) (hap : apartB ds = true)
    (J : Array Bool → (Nat → Value) → World → Prop) (start : ∀ x, J (Array.replicate (m + 1) false) x w.drew)
    (step : ∀ i o listed x w, i < m → l.toArray[i]? = some o → listed.size = m + 1 → Closed l.toArray m listed → ¬ Did listed i → (∀ e ∈ o.after, Region.binds .any e = true → e.on < i ∧ Did listed e.on) → J listed x w → StepX P l.toArray Q o (putAll ds 0 x a0) w (fun v w' => J (listed.setIfInBounds i true) (upd x i v) w'))
    (last : ∀ o listed x w, l.toArray[m]? = some o → (∀ i, i < m → Did listed i) → J listed x w → wpList P l.toArray Q [o] (putAll ds 0 x a0) w) : (Code.region id l.toArray true).wp P Q a0 w := by
  refine wp_region_any hm ?_
  obtain ⟨x, hx⟩ := putAll_own ds 0 a0
  have hnd : ∀ i, i ≤ m → ¬ Did (Array.replicate l.toArray.size false) i := fun i hi h => by
    unfold Did at h
    simp only [Array.getD_eq_getD_getElem?] at h; rw [Array.getElem?_replicate, if_pos (by omega)] at h; simp at h
  have h := wp_coreX (P := P) (Q := Q) (ops := l.toArray) hsz hsh ds (by simpa using hds) hap a0 J step last (l.toArray.size) (Array.replicate l.toArray.size false) x w.drew (by rw [Array.size_replicate, hsz]) (by
    simp only [Array.getD_eq_getD_getElem?]; rw [Array.getElem?_replicate, if_pos (by omega)]; rfl) (by
    rw [hsz]; exact Nat.le_trans (List.length_filter_le _ _) (by simp)) (fun i o _ hi h => absurd h (hnd i hi)) (by rw [hsz]; exact start x)
  rw [hx] at h
  exact h
/-- The kinds of the operations: 0: may come ahead of s; 1: s itself; 2: hangs on s. -/
def StepsD (P : Program) (ops : Array Oper) (Q : Exit → Act → World → Prop) (F : Nat → Prop) (Rs : List (Value → World → Prop)) (ds : List (Option Tmp)) (a0 : Act) (w0 : World) : List Oper → List (Value → World → Prop) → List Nat → Prop
  | o :: os, r :: rs, 0 :: ks => (∀ x w', Only F w0 w' → Needs Rs x w' o.after.toList → ∀ T : Value → World → Prop, Hid (∀ v w2, r v w2 → Only F w' w2 → T v w2) → StepTo P ops o (putAll ds 0 x a0) w' T) ∧ StepsD P ops Q F Rs ds a0 w0 os rs ks
  | o :: os, r :: rs, 1 :: ks => (∀ x w', Only F w0 w' → Needs Rs x w' o.after.toList → StepX P ops Q o (putAll ds 0 x a0) w' (fun _ _ => False)) ∧ StepsD P ops Q F Rs ds a0 w0 os rs ks
  | o :: os, r :: rs, (_ + 2) :: ks => StepsD P ops Q F Rs ds a0 w0 os rs ks
  | _, _, _ => True
theorem stepsD_get {F : Nat → Prop} {Rs : List (Value → World → Prop)} {ds : List (Option Tmp)} {a0 : Act} {w0 : World} : ∀ (os : List Oper) (rs : List (Value → World → Prop)) (ks : List Nat) (i : Nat) (o : Oper), StepsD P ops Q F Rs ds a0 w0 os rs ks → i < rs.length → i < ks.length → os[i]? = some o → ∀ x w', Only F w0 w' → Needs Rs x w' o.after.toList →
    (ks[i]? = some 0 → StepTo P ops o (putAll ds 0 x a0) w' (fun v w2 => rs.getD i (fun _ _ => True) v w2 ∧ Only F w' w2)) ∧ (ks[i]? = some 1 → StepX P ops Q o (putAll ds 0 x a0) w' (fun _ _ => False))
  | [], _, _, i, o, _, _, _, ho => by simp at ho
  | _ :: _, [], _, i, o, _, hi, _, _ => by simp at hi
  | _ :: _, _ :: _, [], i, o, _, _, hi, _ => by simp at hi
  | o' :: os, r :: rs, k :: ks, i, o, h, hi, hk, ho => by
    intro x w' hO hN
    cases i with
    | zero =>
      simp at ho; subst ho
      match k, h with
      | 0, h => exact ⟨fun _ => h.1 x w' hO hN _ (Lib.hid (fun v w2 h1 h2 => ⟨h1, h2⟩)), fun e => by simp at e⟩
      | 1, h => exact ⟨fun e => by simp at e, fun _ => h.1 x w' hO hN⟩
      | k + 2, h => exact ⟨fun e => by simp at e, fun e => by simp at e⟩
    | succ i =>
      have h' : StepsD P ops Q F Rs ds a0 w0 os rs ks := by
        match k, h with
        | 0, h => exact h.2
        | 1, h => exact h.2
        | k + 2, h => exact h
      have := stepsD_get os rs ks i o h' (by simpa using hi) (by simpa using hk) (by simpa using ho) x w' hO hN
      simpa using this
theorem wp_region_dies {id : Nat} {l : List Oper} {a0 : Act} {w : World} (m : Nat) (hm : P.follows .mixedOrders = true) (hsz : l.length = m + 1) (hsh : shapeB l.toArray m = true) (ds : List (Option Tmp)) (hds : (l.take m).map (·.dst) = ds) (hap : apartB ds = true)
    (s : Nat) (hs : s < m) (A : List Nat) (hA : hangB l.toArray m s A = true) (F : Nat → Prop) (Rs : List (Value → World → Prop)) (hRs : Rs.length = m) (hst : AllStable F Rs) (ks : List Nat) (hks : (List.range m).map (fun i => if i = s then 1 else if i ∈ A then 2 else 0) = ks)
    (step : StepsD P l.toArray Q F Rs ds a0 w.drew l Rs ks) : (Code.region id l.toArray true).wp P Q a0 w := by
  have hnd : ∀ i, i ≤ m → ¬ Did (Array.replicate (m + 1) false) i := fun i hi h => by
    unfold Did at h
    simp only [Array.getD_eq_getD_getElem?] at h; rw [Array.getElem?_replicate, if_pos (by omega)] at h; simp at h
  refine wp_region_coreX m hm (by simpa using hsz) hsh ds hds hap (fun listed x w' => Only F w.drew w' ∧ ¬ Did listed s ∧ ∀ i, i < m → Did listed i → Rs.getD i (fun _ _ => True) (x i) w') (fun x => ⟨Only.refl _ _, hnd s (by omega), fun i hi h => absurd h (hnd i (by omega))⟩) (fun i o listed x w' hi ho hl hcl hn hdep hJ => ?_) (fun o listed x w' ho hall hJ => absurd (hall s hs) hJ.2.1)
  have hkl : ks.length = m := by rw [← hks]; simp
  have hki : ks[i]? = some (if i = s then 1 else if i ∈ A then 2 else 0) := by
    rw [← hks, List.getElem?_map, List.getElem?_range hi]; rfl
  have hg := stepsD_get l Rs ks i o step (by omega) (by omega) (by simpa using ho) x w' hJ.1 (needs_of _ (fun e he hb => hJ.2.2 _ (by have := (hdep e (by simpa using he) hb).1; omega) (hdep e (by simpa using he) hb).2))
  by_cases h1 : i = s
  · rw [if_pos h1] at hki
    exact (hg.2 hki).mono (fun _ _ h => h.elim)
  · rw [if_neg h1] at hki
    by_cases h2 : i ∈ A
    · exfalso
      obtain ⟨him, o', ho', e, he, hb, hor⟩ := hang_dep hA h2
      rw [ho] at ho'; injection ho' with ho'; subst ho'
      have hde := (hdep e he hb).2
      rcases hor with h | h
      · exact hJ.2.1 (h ▸ hde)
      · exact hJ.2.1 (hang_did hl hsh hA hcl e.on h hde)
    · rw [if_neg h2] at hki
      refine ((hg.1 hki).mono (fun v w2 hv => ⟨hJ.1.trans hv.2, fun h => hJ.2.1 (((did_set hl (by omega)).1 h).resolve_left (fun e => h1 e.symm)), fun j hj hd => ?_⟩)).x
      by_cases e' : j = i
      · subst e'; rw [upd_same]; exact hv.1
      · rw [upd_other x v e']
        exact stable_get Rs j hst _ _ _ (hJ.2.2 j hj (((did_set hl (by omega)).1 hd).resolve_left e')) hv.2
end
end Go.Proofs.YtgephneppgcnlaaDoor
