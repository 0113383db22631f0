/- A region that draws its order, some of whose operations move the world in a chain (each wants the one ahead of it), the others only reading: one goal for each operation; no orders. Over any program. -/
import Derived.Test.YtlkglhgndfhjeaaReg
namespace Go.Proofs.Ytlkglhgndfhjeaa
open Go Go.RowKit
set_option linter.unusedVariables false
set_option linter.unusedSimpArgs false
section
variable {P : Program} {ops : Array Oper} {Q : Exit → Act → World → Prop}
/-- q wants p, straight or through others. -/
def wantsB (ops : Array Oper) : Nat → Nat → Nat → Bool
  | 0, _, _ => false
  | f + 1, q, p => (ops[q]?).any fun o => o.after.any fun e => Region.binds .any e && (e.on == p || wantsB ops f e.on p)
theorem wants_did {m : Nat} {listed : Array Bool} (hl : listed.size = m + 1) (hsh : shapeB ops m = true) (hcl : Closed ops m listed) : ∀ (f q p : Nat), q ≤ m → wantsB ops f q p = true → (∀ o, ops[q]? = some o → ∀ e ∈ o.after, Region.binds .any e = true → Did listed e.on) → Did listed p
  | 0, _, _, _, h, _ => by cases h
  | f + 1, q, p, hq, h, hd => by
    cases ho : ops[q]? with
    | none => simp [wantsB, ho] at h
    | some o =>
      simp only [wantsB, ho, Option.any_some, ← Array.any_toList, List.any_eq_true, Bool.and_eq_true, Bool.or_eq_true, beq_iff_eq] at h
      obtain ⟨e, he, hb, h⟩ := h
      rw [Array.mem_toList_iff] at he
      have hde := hd o ho e he hb
      have hlt := shape_back hsh hq ho e he hb
      rcases h with h | h
      · rw [← h]; exact hde
      · exact wants_did hl hsh hcl f e.on p (by omega) h (fun o' ho' e' he' hb' => getD_true (by have := shape_back hsh (by omega) ho' e' he' hb'; omega) (hcl e.on o' ho' (by omega) hde e' he' hb'))
/-- The chain: its operations, each wanting the one ahead; which place in it each operation has. -/
def chainB (ops : Array Oper) (m : Nat) (ch : List Nat) (kinds : List (Option Nat)) : Bool :=
  (kinds.length == m) && ch.all (fun i => decide (i < m)) &&
  (List.range m).all (fun i => match kinds.getD i none with | some t => ch[t]? == some i | none => !ch.contains i) &&
  (List.range ch.length).all (fun t => decide (kinds.getD (ch.getD t 0) none = some t)) &&
  (List.range ch.length).all (fun t => t == 0 || wantsB ops m (ch.getD t 0) (ch.getD (t - 1) 0))
structure ChainOk (ops : Array Oper) (m : Nat) (ch : List Nat) (kinds : List (Option Nat)) : Prop where
  len : kinds.length = m
  lt : ∀ (t i : Nat), ch[t]? = some i → i < m
  pos : ∀ (i t : Nat), i < m → kinds.getD i none = some t → ch[t]? = some i
  not : ∀ (i : Nat), i < m → kinds.getD i none = none → ∀ (t : Nat), ch[t]? ≠ some i
  one : ∀ (t i : Nat), ch[t]? = some i → kinds.getD i none = some t
  wants : ∀ (t i j : Nat), ch[t + 1]? = some i → ch[t]? = some j → wantsB ops m i j = true
theorem chain_ok {m : Nat} {ch : List Nat} {kinds : List (Option Nat)} (h : chainB ops m ch kinds = true) : ChainOk ops m ch kinds := by
  simp only [chainB, Bool.and_eq_true, beq_iff_eq, List.all_eq_true, List.mem_range, decide_eq_true_eq] at h
  obtain ⟨⟨⟨⟨h1, h2⟩, h3⟩, h4⟩, h5⟩ := h
  have hget : ∀ {t i : Nat}, ch[t]? = some i → t < ch.length ∧ ch.getD t 0 = i := fun {t i} h => ⟨(List.getElem?_eq_some_iff.1 h).1, by rw [List.getD_eq_getElem?_getD, h]; rfl⟩
  refine ⟨h1, fun t i h => h2 i (List.mem_of_getElem? h), fun i t hi hk => ?_, fun i hi hk t ht => ?_, fun t i h => ?_, fun t i j hi hj => ?_⟩
  · have := h3 i hi
    rw [hk] at this
    simpa using this
  · have := h3 i hi
    rw [hk] at this
    simp only [Bool.not_eq_true', List.contains_eq_mem, decide_eq_false_iff_not] at this
    exact this (List.mem_of_getElem? ht)
  · obtain ⟨g1, g2⟩ := hget h
    have := h4 t g1
    rwa [g2] at this
  · obtain ⟨g1, g2⟩ := hget hi
    obtain ⟨k1, k2⟩ := hget hj
    have := h5 (t + 1) g1
    simp only [Bool.or_eq_true, beq_iff_eq, Nat.add_sub_cancel, g2, k2] at this
    exact this.resolve_left (by omega)
def NeedsV (Rs : List (Value → Prop)) (x : Nat → Value) : List Edge → Prop
  | [] => True
  | e :: es => (Region.binds .any e = true → Rs.getD e.on (fun _ => True) (x e.on)) ∧ NeedsV Rs x es
theorem needsV_of {Rs : List (Value → Prop)} {x : Nat → Value} : ∀ (es : List Edge), (∀ e ∈ es, Region.binds .any e = true → Rs.getD e.on (fun _ => True) (x e.on)) → NeedsV Rs x es
  | [], _ => trivial
  | e :: es, h => ⟨h e List.mem_cons_self, needsV_of es (fun e' he => h e' (List.mem_cons_of_mem _ he))⟩
def HoldsV : List (Value → Prop) → (Nat → Value) → Nat → Prop
  | [], _, _ => True
  | r :: rs, x, k => r (x k) ∧ HoldsV rs x (k + 1)
theorem holdsV_of {x : Nat → Value} : ∀ (Rs : List (Value → Prop)) (k : Nat), (∀ i, i < Rs.length → Rs.getD i (fun _ => True) (x (k + i))) → HoldsV Rs x k
  | [], _, _ => trivial
  | r :: rs, k, h => ⟨by have := h 0 (by simp); simpa using this, holdsV_of rs (k + 1) (fun i hi => by
      have := h (i + 1) (by simpa using hi)
      rw [show k + (i + 1) = k + 1 + i from by omega] at this
      simpa using this)⟩
def StepsC (P : Program) (ops : Array Oper) (St : Nat → World → Prop) (K : World → Prop) (Rs : List (Value → Prop)) (ds : List (Option Tmp)) (a0 : Act) : List Oper → List (Value → Prop) → List (Option Nat) → Prop
  | o :: os, r :: rs, none :: ks => (∀ x w', K w' → NeedsV Rs x o.after.toList → ∀ T : Value → World → Prop, Hid (∀ v, r v → T v w') → StepTo P ops o (putAll ds 0 x a0) w' T) ∧ StepsC P ops St K Rs ds a0 os rs ks
  | o :: os, r :: rs, some t :: ks => (∀ x w', St t w' → NeedsV Rs x o.after.toList → ∀ T : Value → World → Prop, Hid (∀ v w2, r v → St (t + 1) w2 → T v w2) → StepTo P ops o (putAll ds 0 x a0) w' T) ∧ StepsC P ops St K Rs ds a0 os rs ks
  | _, _, _ => True
theorem stepsC_get {St : Nat → World → Prop} {K : World → Prop} {Rs : List (Value → Prop)} {ds : List (Option Tmp)} {a0 : Act} : ∀ (os : List Oper) (rs : List (Value → Prop)) (ks : List (Option Nat)) (i : Nat) (o : Oper), StepsC P ops St K Rs ds a0 os rs ks → i < rs.length → i < ks.length → os[i]? = some o →
    (ks.getD i none = none → ∀ x w', K w' → NeedsV Rs x o.after.toList → StepTo P ops o (putAll ds 0 x a0) w' (fun v w2 => rs.getD i (fun _ => True) v ∧ w2 = w')) ∧
    (∀ t, ks.getD i none = some t → ∀ x w', St t w' → NeedsV Rs x o.after.toList → StepTo P ops o (putAll ds 0 x a0) w' (fun v w2 => rs.getD i (fun _ => True) v ∧ St (t + 1) w2))
  | [], _, _, i, o, _, _, _, ho => by simp at ho
  | _ :: _, [], _, i, o, _, hi, _, _ => by simp at hi
  | _ :: _, _ :: _, [], i, o, _, _, hi, _ => by simp at hi
  | o' :: os, r :: rs, none :: ks, 0, o, h, _, _, ho => by
    simp at ho; subst ho
    exact ⟨fun _ x w' hK hN => h.1 x w' hK hN _ (Lib.hid (fun v h1 => ⟨h1, rfl⟩)), fun t ht => by simp at ht⟩
  | o' :: os, r :: rs, some t' :: ks, 0, o, h, _, _, ho => by
    simp at ho; subst ho
    refine ⟨fun ht => by simp at ht, fun t ht x w' hS hN => ?_⟩
    simp at ht; subst ht
    exact h.1 x w' hS hN _ (Lib.hid (fun v w2 h1 h2 => ⟨h1, h2⟩))
  | o' :: os, r :: rs, none :: ks, i + 1, o, h, hi, hk, ho => by
    have := stepsC_get os rs ks i o h.2 (by simpa using hi) (by simpa using hk) (by simpa using ho)
    simpa using this
  | o' :: os, r :: rs, some _ :: ks, i + 1, o, h, hi, hk, ho => by
    have := stepsC_get os rs ks i o h.2 (by simpa using hi) (by simpa using hk) (by simpa using ho)
    simpa using this
theorem wp_region_chain {id : Nat} {l : List Oper} {a0 : Act} {w : World} (m : Nat) (hm : P.follows .mixedOrders = true) (hsz : l.length = m + 1) (hsh : shapeB l.toArray m = true) (ds : List (Option Tmp)) (hds : (l.take m).map (·.dst) = ds) (hap : apartB ds = true)
    (ch : List Nat) (kinds : List (Option Nat)) (hch : chainB l.toArray m ch kinds = true) (St : Nat → World → Prop) (K : World → Prop) (hK : ∀ t w, t ≤ ch.length → St t w → K w) (h0 : St 0 w.drew)
    (Rs : List (Value → Prop)) (hRs : Rs.length = m) (ol : Oper) (hol : l[m]? = some ol)
    (step : StepsC P l.toArray St K Rs ds a0 l Rs kinds)
    (last : ∀ x w', St ch.length w' → HoldsV Rs x 0 → wpList P l.toArray Q [ol] (putAll ds 0 x a0) w') : (Code.region id l.toArray true).wp P Q a0 w := by
  have C := chain_ok hch
  have hnd : ∀ i, i ≤ m → ¬ Did (Array.replicate (m + 1) false) i := fun i hi h => by
    unfold Did at h
    simp only [Array.getD_eq_getD_getElem?] at h; rw [Array.getElem?_replicate, if_pos (by omega)] at h; simp at h
  refine wp_region_core m hm (by simpa using hsz) hsh ds hds hap (fun listed x w' => ∃ t, t ≤ ch.length ∧ (∀ u i, ch[u]? = some i → (Did listed i ↔ u < t)) ∧ St t w' ∧ ∀ i, i < m → Did listed i → Rs.getD i (fun _ => True) (x i)) (fun x => ⟨0, Nat.zero_le _, fun u i hu => ⟨fun h => absurd h (hnd i (by have := C.lt u i hu; omega)), fun h => by omega⟩, h0, fun i hi h => absurd h (hnd i (by omega))⟩) (fun i o listed x w' hi ho hl hcl hn hdep hJ => ?_) (fun o listed x w' ho hall hJ => ?_)
  · obtain ⟨t, ht, hdid, hst, hR⟩ := hJ
    have hneeds : NeedsV Rs x o.after.toList := needsV_of _ (fun e he hb => hR _ (by have := (hdep e (by simpa using he) hb).1; omega) (hdep e (by simpa using he) hb).2)
    have hs := stepsC_get l Rs kinds i o step (by omega) (by rw [C.len]; exact hi) (by simpa using ho)
    cases hk : kinds.getD i none with
    | none =>
      refine (hs.1 hk x w' (hK t w' ht hst) hneeds).mono (fun v w2 hv => ?_)
      obtain ⟨hv1, rfl⟩ := hv
      refine ⟨t, ht, fun u j hu => ?_, hst, fun j hj hd => ?_⟩
      · rw [did_set hl (by omega), ← hdid u j hu]
        exact ⟨fun h => h.resolve_left (fun e => C.not i hi hk u (e ▸ hu)), .inr⟩
      · by_cases e : j = i
        · subst e; rw [upd_same]; exact hv1
        · rw [upd_other x v e]
          exact hR j hj (((did_set hl (by omega)).1 hd).resolve_left e)
    | some u =>
      have hu := C.pos i u hi hk
      have hul : u < ch.length := (List.getElem?_eq_some_iff.1 hu).1
      have hge : t ≤ u := by
        rcases Nat.lt_or_ge u t with h | h
        · exact absurd ((hdid u i hu).2 h) hn
        · exact h
      have hut : u = t := by
        rcases Nat.lt_or_ge t u with h | h
        · exfalso
          obtain ⟨u', rfl⟩ : ∃ u', u = u' + 1 := ⟨u - 1, by omega⟩
          have hj : ch[u']? = some (ch[u']'(by omega)) := List.getElem?_eq_getElem _
          have hw := C.wants u' i _ hu hj
          have hd := wants_did hl hsh hcl m i _ (by omega) hw (fun o' ho' e he hb => by
            rw [ho] at ho'; injection ho' with ho'; subst ho'
            exact (hdep e he hb).2)
          have := (hdid u' _ hj).1 hd
          omega
        · omega
      subst hut
      refine (hs.2 u hk x w' hst hneeds).mono (fun v w2 hv => ?_)
      refine ⟨u + 1, hul, fun s j hj => ?_, hv.2, fun j hj hd => ?_⟩
      · rw [did_set hl (by omega), hdid s j hj]
        constructor
        · rintro (h | h)
          · subst h
            have h1 := C.one s j hj
            rw [hk] at h1; injection h1 with h1; omega
          · omega
        · intro h
          rcases Nat.lt_or_ge s u with h1 | h1
          · exact .inr h1
          · obtain rfl : s = u := by omega
            rw [hu] at hj; injection hj with hj; exact .inl hj.symm
      · by_cases e : j = i
        · subst e; rw [upd_same]; exact hv.1
        · rw [upd_other x v e]
          exact hR j hj (((did_set hl (by omega)).1 hd).resolve_left e)
  · obtain ⟨t, ht, hdid, hst, hR⟩ := hJ
    have hte : t = ch.length := by
      rcases Nat.lt_or_ge t ch.length with h | h
      · have hj : ch[t]? = some (ch[t]'h) := List.getElem?_eq_getElem _
        have := (hdid t _ hj).1 (hall _ (C.lt t _ hj))
        omega
      · omega
    subst hte
    have : o = ol := by
      have h : l[m]? = some o := by simpa using ho
      rw [hol] at h; injection h with h; exact h.symm
    subst this
    exact last x w' hst (holdsV_of Rs 0 (fun i hi => by rw [Nat.zero_add]; exact hR i (by omega) (hall i (by omega))))
end
end Go.Proofs.Ytlkglhgndfhjeaa
