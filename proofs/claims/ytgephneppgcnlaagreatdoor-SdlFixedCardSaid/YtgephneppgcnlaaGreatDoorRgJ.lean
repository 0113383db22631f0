/- Regions that draw their order, whose operations' values hang together: a relation may name the values of the operations that it hangs on. -/
import Derived.Test.YtgephneppgcnlaaGreatDoorRgA
namespace Go.Proofs.YtgephneppgcnlaaGreatDoor
open Go Go.RowKit
set_option linter.unusedVariables false
set_option linter.unusedSimpArgs false
section
variable {P : Program} {ops : Array Oper} {Q : Exit → Act → World → Prop}

abbrev RelJ := List Value → Value → World → Prop
def ds0 (Ds : List (List Nat)) (i : Nat) : List Nat := Ds.getD i []
def rs0 (Rs : List RelJ) (i : Nat) : RelJ := Rs.getD i (fun _ _ _ => True)
def depB (ops : Array Oper) (Ds : List (List Nat)) : Bool := (List.range Ds.length).all fun i => (ds0 Ds i).all fun d => match ops[i]? with | some o => o.after.any fun e => Region.binds .any e && e.on == d | none => false
theorem depB_get {Ds : List (List Nat)} (h : depB ops Ds = true) {i d : Nat} (hd : d ∈ ds0 Ds i) : ∃ o, ops[i]? = some o ∧ ∃ e ∈ o.after, Region.binds .any e = true ∧ e.on = d := by
  have hi : i < Ds.length := by
    rcases Nat.lt_or_ge i Ds.length with h | h
    · exact h
    · unfold ds0 at hd
      rw [List.getD_eq_getElem?_getD, List.getElem?_eq_none h] at hd
      simp at hd
  have h1 := List.all_eq_true.1 h i (List.mem_range.2 hi)
  have h2 := List.all_eq_true.1 h1 d hd
  cases ho : ops[i]? with
  | none => rw [ho] at h2; cases h2
  | some o =>
    rw [ho] at h2
    have h2 : (o.after.any fun e => Region.binds .any e && e.on == d) = true := h2
    rw [Array.any_eq_true] at h2
    obtain ⟨k, hk, h3⟩ := h2
    rw [Bool.and_eq_true] at h3
    exact ⟨o, rfl, o.after[k], Array.getElem_mem hk, h3.1, by simpa using h3.2⟩
def StableJ (F : Nat → Prop) (r : RelJ) : Prop := ∀ ys v w w', r ys v w → Only F w w' → r ys v w'
theorem StableJ.is (F : Nat → Prop) (c : List Value → Value) : StableJ F (fun ys v _ => v = c ys) := fun _ _ _ _ h _ => h
def AllStableJ (F : Nat → Prop) : List RelJ → Prop
  | [] => True
  | r :: rs => StableJ F r ∧ AllStableJ F rs
theorem stableJ_get {F : Nat → Prop} : ∀ (rs : List RelJ) (i : Nat), AllStableJ F rs → StableJ F (rs0 rs i)
  | [], i, _ => fun _ _ _ _ _ _ => by unfold rs0; simp
  | r :: rs, 0, h => h.1
  | r :: rs, i + 1, h => stableJ_get rs i h.2
def HoldsJ : List RelJ → List (List Nat) → (Nat → Value) → Nat → World → Prop
  | r :: rs, D :: Ds, x, k, w => r (D.map x) (x k) w ∧ HoldsJ rs Ds x (k + 1) w
  | _, _, _, _, _ => True
def NeedsJ (Rs : List RelJ) (Ds : List (List Nat)) (x : Nat → Value) (w : World) : List Edge → Prop
  | [] => True
  | e :: es => (Region.binds .any e = true → rs0 Rs e.on ((ds0 Ds e.on).map x) (x e.on) w) ∧ NeedsJ Rs Ds x w es
def StepsJ (P : Program) (ops : Array Oper) (F : Nat → Prop) (Rs : List RelJ) (Ds : List (List Nat)) (ds : List (Option Tmp)) (a0 : Act) (w0 : World) : List Oper → List RelJ → List (List Nat) → Prop
  | o :: os, r :: rs, D :: Ds' => (∀ x w', Only F w0 w' → NeedsJ Rs Ds x w' o.after.toList → ∀ T : Value → World → Prop, Hid (∀ v w2, r (D.map x) v w2 → Only F w' w2 → T v w2) → StepTo P ops o (putAll ds 0 x a0) w' T) ∧ StepsJ P ops F Rs Ds ds a0 w0 os rs Ds'
  | _, _, _ => True
theorem needsJ_of {Rs : List RelJ} {Ds : List (List Nat)} {x : Nat → Value} {w : World} : ∀ (es : List Edge), (∀ e ∈ es, Region.binds .any e = true → rs0 Rs e.on ((ds0 Ds e.on).map x) (x e.on) w) → NeedsJ Rs Ds x w es
  | [], _ => trivial
  | e :: es, h => ⟨h e List.mem_cons_self, needsJ_of es (fun e' he => h e' (List.mem_cons_of_mem _ he))⟩
theorem holdsJ_of {x : Nat → Value} {w : World} : ∀ (Rs : List RelJ) (Ds : List (List Nat)) (k : Nat), (∀ i, i < Rs.length → rs0 Rs i ((ds0 Ds i).map x) (x (k + i)) w) → HoldsJ Rs Ds x k w
  | [], _, _, _ => by simp [HoldsJ]
  | _ :: _, [], _, _ => by simp [HoldsJ]
  | r :: rs, D :: Ds, k, h => ⟨by have := h 0 (by simp); simpa [rs0, ds0] using this, holdsJ_of rs Ds (k + 1) (fun i hi => by
      have := h (i + 1) (by simpa using hi)
      rw [show k + (i + 1) = k + 1 + i from by omega] at this
      simpa [rs0, ds0] using this)⟩
theorem stepsJ_get {F : Nat → Prop} {Rs : List RelJ} {Ds : List (List Nat)} {ds : List (Option Tmp)} {a0 : Act} {w0 : World} : ∀ (os : List Oper) (rs : List RelJ) (Es : List (List Nat)) (i : Nat) (o : Oper), StepsJ P ops F Rs Ds ds a0 w0 os rs Es → i < rs.length → i < Es.length → os[i]? = some o →
    ∀ x w', Only F w0 w' → NeedsJ Rs Ds x w' o.after.toList → StepTo P ops o (putAll ds 0 x a0) w' (fun v w2 => rs0 rs i ((ds0 Es i).map x) v w2 ∧ Only F w' w2)
  | [], _, _, i, o, _, _, _, ho => by simp at ho
  | _ :: _, [], _, i, o, _, hi, _, _ => by simp at hi
  | _ :: _, _ :: _, [], i, o, _, _, hi, _ => by simp at hi
  | o' :: os, r :: rs, D :: Es, 0, o, h, _, _, ho => by
    simp at ho; subst ho
    exact fun x w' hO hN => h.1 x w' hO hN _ (Lib.hid (fun v w2 h1 h2 => ⟨h1, h2⟩))
  | o' :: os, r :: rs, D :: Es, i + 1, o, h, hi, hi2, ho => stepsJ_get os rs Es i o h.2 (by simpa using hi) (by simpa using hi2) (by simpa using ho)
/-- THE LAW: nothing moves but F; a relation names the values that it hangs on. -/
theorem wp_region_joint {id : Nat} {l : List Oper} {a0 : Act} {w : World} (m : Nat) (hm : P.follows .mixedOrders = true) (hsz : l.length = m + 1) (hsh : shapeB l.toArray m = true) (ds : List (Option Tmp)) (hds : (l.take m).map (·.dst) = ds) (hap : apartB ds = true)
    (F : Nat → Prop) (Ds : List (List Nat)) (hDs : Ds.length = m) (hdb : depB l.toArray Ds = true) (Rs : List RelJ) (hRs : Rs.length = m) (hst : AllStableJ F Rs) (ol : Oper) (hol : l[m]? = some ol)
    (step : StepsJ P l.toArray F Rs Ds ds a0 w.drew l Rs Ds)
    (last : ∀ x w', Only F w.drew w' → HoldsJ Rs Ds x 0 w' → wpList P l.toArray Q [ol] (putAll ds 0 x a0) w') : (Code.region id l.toArray true).wp P Q a0 w := by
  have hDi : ∀ i d, d ∈ ds0 Ds i → ∀ o, l.toArray[i]? = some o → ∃ e ∈ o.after, Region.binds .any e = true ∧ e.on = d := fun i d hd o ho => by
    obtain ⟨o', h1, h2⟩ := depB_get hdb hd
    rw [ho] at h1; injection h1 with h1; subst h1
    exact h2
  refine wp_region_core m hm (by simpa using hsz) hsh ds hds hap (fun listed x w' => Only F w.drew w' ∧ ∀ i, i < m → Did listed i → rs0 Rs i ((ds0 Ds i).map x) (x i) w') (fun x => ⟨Only.refl _ _, fun i hi h => ?_⟩) (fun i o listed x w' hi ho hl hcl hnd hdep hJ => ?_) (fun o listed x w' ho hall hJ => ?_)
  · exfalso; unfold Did at h
    simp only [Array.getD_eq_getD_getElem?] at h; rw [Array.getElem?_replicate, if_pos (by omega)] at h; simp at h
  · refine (stepsJ_get l Rs Ds i o step (by omega) (by omega) (by simpa using ho) x w' hJ.1 (needsJ_of _ (fun e he hb => hJ.2 _ (by have := (hdep e (by simpa using he) hb).1; omega) (hdep e (by simpa using he) hb).2))).mono (fun v w2 hv => ⟨hJ.1.trans hv.2, fun j hj hd => ?_⟩)
    have hmap : ∀ D : List Nat, i ∉ D → D.map (upd x i v) = D.map x := fun D hD => by
      apply List.map_congr_left
      intro d hd
      exact upd_other x v (fun e => hD (by rw [← e]; exact hd))
    rcases (did_set hl (by omega)).1 hd with e | e
    · subst e
      rw [upd_same, hmap _ (fun hin => by obtain ⟨e, he, hb, heq⟩ := hDi j j hin o ho; have := (hdep e he hb).1; omega)]
      exact hv.1
    · by_cases e' : j = i
      · subst e'; exact absurd e hnd
      · rw [upd_other x v e', hmap _ (fun hin => by
          obtain ⟨oj, hoj⟩ : ∃ oj, l.toArray[j]? = some oj := ⟨l.toArray[j]'(by simp; omega), Array.getElem?_eq_getElem _⟩
          obtain ⟨ed, he, hb, heq⟩ := hDi j i hin oj hoj
          have h1 := hcl j oj hoj (by omega) e ed he hb
          rw [heq] at h1
          exact hnd (getD_true (by omega) h1))]
        exact stableJ_get Rs j hst _ _ _ _ (hJ.2 j hj e) hv.2
  · have : o = ol := by
      have h : l[m]? = some o := by simpa using ho
      rw [hol] at h; injection h with h; exact h.symm
    subst this
    refine last x w' hJ.1 (holdsJ_of Rs Ds 0 (fun i hi => ?_))
    rw [Nat.zero_add]; exact hJ.2 i (by omega) (hall i (by omega))
/-! ### A call and a new block that no order ties, and a store into the block -/
def sOf (l : List Oper) (s : Nat) : List Nat := match l[s]? with | some o => (o.after.toList.filter (Region.binds .any)).map (·.on) | none => []
/-- L: the operations that may come behind the store. They hang on neither the block nor the call. -/
def lateB (l : List Oper) (m s a c : Nat) (L : List Nat) : Bool :=
  decide (a ∈ sOf l s) && decide (c ∈ sOf l s) && decide (s < m) && decide (a < m) && decide (c < m) && decide (a ≠ c) && decide (a ≠ s) && decide (c ≠ s) && !L.contains a && !L.contains c &&
  (List.range m).all fun i => L.contains i || i == s || (sOf l s).contains i
def lateD (l : List Oper) (s a c : Nat) (L : List Nat) : Bool := L.all fun i => match l[i]? with | some o => (o.after.any fun e => Region.binds .any e && e.on == s) || o.after.all fun e => !Region.binds .any e || (e.on != a && e.on != c) | none => true
def setR (Rs : List RelJ) (a c : Nat) (Ra Rc : RelJ) : List RelJ := (Rs.set a Ra).set c Rc
structure PairLaw (P : Program) (l : List Oper) (F F1 : Nat → Prop) (Rs : List RelJ) (Ds : List (List Nat)) (ds : List (Option Tmp)) (a0 : Act) (w0 : World) (s a c : Nat) (L : List Nat) (Ra Rc : RelJ) (Pr : Value → Value → World → Prop) : Prop where
  stable : ∀ i, i < Rs.length → (if i = a ∨ i = c ∨ i = s then StableJ F (rs0 Rs i) else StableJ F1 (rs0 Rs i))
  stA : StableJ F Ra
  stC : StableJ F Rc
  stP : ∀ u v w w', Pr u v w → Only F w w' → Pr u v w'
  early : ∀ i o, i < Rs.length → l[i]? = some o → i ≠ s → i ∉ L → ∀ x w', Only F w0 w' → NeedsJ Rs Ds x w' o.after.toList → StepTo P l.toArray o (putAll ds 0 x a0) w' (fun v w2 => rs0 Rs i ((ds0 Ds i).map x) v w2 ∧ Only F w' w2 ∧ (i = a → ∀ y ys, rs0 Rs c ys y w' → Pr v y w2) ∧ (i = c → ∀ y ys, rs0 Rs a ys y w' → Pr y v w2))
  store : ∀ o, l[s]? = some o → ∀ x w', Only F w0 w' → NeedsJ Rs Ds x w' o.after.toList → Pr (x a) (x c) w' → rs0 Rs a ((ds0 Ds a).map x) (x a) w' → rs0 Rs c ((ds0 Ds c).map x) (x c) w' → StepTo P l.toArray o (putAll ds 0 x a0) w' (fun v w2 => rs0 Rs s ((ds0 Ds s).map x) v w2 ∧ Only F1 w' w2 ∧ Ra ((ds0 Ds a).map x) (x a) w2 ∧ Rc ((ds0 Ds c).map x) (x c) w2)
  late : ∀ i o, i ∈ L → i < Rs.length → l[i]? = some o → ∀ x w', Only F1 w0 w' → NeedsJ (setR Rs a c Ra Rc) Ds x w' o.after.toList → StepTo P l.toArray o (putAll ds 0 x a0) w' (fun v w2 => rs0 Rs i ((ds0 Ds i).map x) v w2 ∧ Only F w' w2)
def relP (Rs : List RelJ) (a c : Nat) (Ra Rc : RelJ) (i : Nat) : RelJ := if i = a then Ra else if i = c then Rc else rs0 Rs i
theorem setR_get {Rs : List RelJ} {a c : Nat} {Ra Rc : RelJ} (ha : a < Rs.length) (hc : c < Rs.length) (hac : a ≠ c) (i : Nat) : rs0 (setR Rs a c Ra Rc) i = relP Rs a c Ra Rc i := by
  unfold rs0 setR relP rs0
  rw [List.getD_eq_getElem?_getD, List.getElem?_set, List.getElem?_set]
  by_cases hi : i = a
  · subst hi
    rw [if_pos rfl, if_neg (fun e => hac e.symm)]
    simp [ha]
  · rw [if_neg hi]
    by_cases hj : i = c
    · subst hj; simp [hc]
    · rw [if_neg (fun e => hj e.symm), if_neg (fun e => hi e.symm), if_neg hj, List.getD_eq_getElem?_getD]
theorem mem_sOf {l : List Oper} {s d : Nat} (h : d ∈ sOf l s) : ∃ o, l[s]? = some o ∧ ∃ e ∈ o.after, Region.binds .any e = true ∧ e.on = d := by
  unfold sOf at h
  cases ho : l[s]? with
  | none => rw [ho] at h; simp at h
  | some o =>
    rw [ho] at h
    obtain ⟨e, he, h2⟩ := List.mem_map.1 h
    rw [List.mem_filter] at he
    exact ⟨o, rfl, e, by simpa using he.1, he.2, h2⟩
theorem needsJ_mono {Rs : List RelJ} {Ds : List (List Nat)} {x : Nat → Value} {w : World} {R' : Nat → RelJ} : ∀ (es : List Edge), (∀ e ∈ es, Region.binds .any e = true → R' e.on ((ds0 Ds e.on).map x) (x e.on) w) → (∀ e ∈ es, Region.binds .any e = true → R' e.on = rs0 Rs e.on) → NeedsJ Rs Ds x w es
  | [], _, _ => trivial
  | e :: es, h, h2 => ⟨fun hb => by have := h e List.mem_cons_self hb; rw [h2 e List.mem_cons_self hb] at this; exact this, needsJ_mono es (fun e' he => h e' (List.mem_cons_of_mem _ he)) (fun e' he => h2 e' (List.mem_cons_of_mem _ he))⟩
theorem wp_region_pair {id : Nat} {l : List Oper} {a0 : Act} {w : World} (m : Nat) (hm : P.follows .mixedOrders = true) (hsz : l.length = m + 1) (hsh : shapeB l.toArray m = true) (ds : List (Option Tmp)) (hds : (l.take m).map (·.dst) = ds) (hap : apartB ds = true)
    (F F1 : Nat → Prop) (hF : ∀ q, F q → F1 q) (Ds : List (List Nat)) (hDs : Ds.length = m) (hdb : depB l.toArray Ds = true) (Rs : List RelJ) (hRs : Rs.length = m) (s a c : Nat) (L : List Nat) (hL : lateB l m s a c L = true) (hLd : lateD l s a c L = true) (Ra Rc : RelJ) (Pr : Value → Value → World → Prop) (ol : Oper) (hol : l[m]? = some ol)
    (law : PairLaw P l F F1 Rs Ds ds a0 w.drew s a c L Ra Rc Pr)
    (last : ∀ x w', Only F1 w.drew w' → (∀ i, i < m → relP Rs a c Ra Rc i ((ds0 Ds i).map x) (x i) w') → wpList P l.toArray Q [ol] (putAll ds 0 x a0) w') : (Code.region id l.toArray true).wp P Q a0 w := by
  unfold lateB at hL
  simp only [Bool.and_eq_true, decide_eq_true_eq] at hL
  obtain ⟨⟨⟨⟨⟨⟨⟨⟨⟨⟨hsa, hsc⟩, hsm⟩, ham⟩, hcm⟩, hac⟩, has⟩, hcs⟩, hLa⟩, hLc⟩, hLall⟩ := hL
  have hLa : a ∉ L := by simpa using hLa
  have hLc : c ∉ L := by simpa using hLc
  have hlate : ∀ i, i < m → i ∈ L ∨ i = s ∨ i ∈ sOf l s := fun i hi => by
    have := List.all_eq_true.1 hLall i (List.mem_range.2 hi)
    simpa [or_assoc] using this
  have hDi : ∀ i d, d ∈ ds0 Ds i → ∀ o, l.toArray[i]? = some o → ∃ e ∈ o.after, Region.binds .any e = true ∧ e.on = d := fun i d hd o ho => by
    obtain ⟨o', h1, h2⟩ := depB_get hdb hd
    rw [ho] at h1; injection h1 with h1; subst h1
    exact h2
  have hsd : ∀ listed : Array Bool, listed.size = m + 1 → Closed l.toArray m listed → Did listed s → ∀ d, d ∈ sOf l s → Did listed d := fun listed hl hcl hd d hdm => by
    obtain ⟨o, ho, e, he, hb, hon⟩ := mem_sOf hdm
    have := hcl s o (by simpa using ho) (by omega) hd e he hb
    rw [hon] at this
    exact getD_true (by
      have := shape_back hsh (show s ≤ m by omega) (show l.toArray[s]? = some o by simpa using ho) e he hb
      omega) this
  refine wp_region_core m hm (by simpa using hsz) hsh ds hds hap
    (fun listed x w' => (¬ Did listed s → Only F w.drew w' ∧ (∀ i, i < m → Did listed i → rs0 Rs i ((ds0 Ds i).map x) (x i) w') ∧ (Did listed a → Did listed c → Pr (x a) (x c) w')) ∧ (Did listed s → Only F1 w.drew w' ∧ ∀ i, i < m → Did listed i → relP Rs a c Ra Rc i ((ds0 Ds i).map x) (x i) w'))
    (fun x => ?_) (fun i o listed x w' hi ho hl hcl hnd hdep hJ => ?_) (fun o listed x w' ho hall hJ => ?_)
  · have hnd : ∀ i, i ≤ m → ¬ Did (Array.replicate (m + 1) false) i := fun i hi h => by
      unfold Did at h
      simp only [Array.getD_eq_getD_getElem?] at h; rw [Array.getElem?_replicate, if_pos (by omega)] at h; simp at h
    exact ⟨fun _ => ⟨Only.refl _ _, fun i hi h => absurd h (hnd i (by omega)), fun h => absurd h (hnd a (by omega))⟩, fun h => absurd h (hnd s (by omega))⟩
  · have hmap : ∀ (v : Value) (D : List Nat), i ∉ D → D.map (upd x i v) = D.map x := fun v D hD => by
      apply List.map_congr_left
      intro d hd
      exact upd_other x v (fun e => hD (by rw [← e]; exact hd))
    have hown : i ∉ ds0 Ds i := fun hin => by obtain ⟨e, he, hb, heq⟩ := hDi i i hin o ho; have := (hdep e he hb).1; omega
    have hdown : ∀ j, j < m → Did listed j → i ∉ ds0 Ds j := fun j hj e hin => by
      obtain ⟨oj, hoj⟩ : ∃ oj, l.toArray[j]? = some oj := ⟨l.toArray[j]'(by simp; omega), Array.getElem?_eq_getElem _⟩
      obtain ⟨ed, he, hb, heq⟩ := hDi j i hin oj hoj
      have h1 := hcl j oj hoj (by omega) e ed he hb
      rw [heq] at h1
      exact hnd (getD_true (by omega) h1)
    have ho' : l[i]? = some o := by simpa using ho
    by_cases hds_ : Did listed s
    · -- behind the store
      obtain ⟨hO, hR⟩ := hJ.2 hds_
      have his : i ≠ s := fun e => hnd (by rw [e]; exact hds_)
      have hiL : i ∈ L := by
        rcases hlate i hi with h | h | h
        · exact h
        · exact absurd h his
        · exact absurd (hsd listed hl hcl hds_ i h) hnd
      have hia : i ≠ a := fun e => hnd (by rw [e]; exact hsd listed hl hcl hds_ a hsa)
      have hic : i ≠ c := fun e => hnd (by rw [e]; exact hsd listed hl hcl hds_ c hsc)
      refine (law.late i o hiL (by omega) ho' x w' hO (needsJ_of _ (fun e he hb => by rw [setR_get (by omega) (by omega) hac]; exact hR _ (by have := (hdep e (by simpa using he) hb).1; omega) (hdep e (by simpa using he) hb).2))).mono (fun v w2 hv => ⟨fun h => absurd ((did_set hl (by omega)).2 (.inr hds_)) h, fun _ => ⟨hO.trans (hv.2.mono (fun q _ h => hF q h)), fun j hj hd => ?_⟩⟩)
      rcases (did_set hl (by omega)).1 hd with e | e
      · subst e
        rw [upd_same, hmap v _ hown]
        unfold relP; rw [if_neg hia, if_neg hic]; exact hv.1
      · have hji : j ≠ i := fun e' => hnd (by rw [← e']; exact e)
        rw [upd_other x v hji, hmap v _ (hdown j hj e)]
        have hold := hR j hj e
        unfold relP at hold ⊢
        by_cases hja : j = a
        · rw [if_pos hja] at hold ⊢; exact law.stA _ _ _ _ hold hv.2
        · rw [if_neg hja] at hold ⊢
          by_cases hjc : j = c
          · rw [if_pos hjc] at hold ⊢; exact law.stC _ _ _ _ hold hv.2
          · rw [if_neg hjc] at hold ⊢
            have hst := law.stable j (by omega)
            by_cases hjs : j = s
            · rw [if_pos (.inr (.inr hjs))] at hst; exact hst _ _ _ _ hold hv.2
            · rw [if_neg (by rintro (h | h | h) <;> contradiction)] at hst
              exact hst _ _ _ _ hold (hv.2.mono (fun q _ h => hF q h))
    · obtain ⟨hO, hR, hP⟩ := hJ.1 hds_
      by_cases his : i = s
      · -- the store
        subst his
        have hda : ∀ d, d ∈ sOf l i → Did listed d := fun d hd => by
          obtain ⟨o', ho2, e, he, hb, hon⟩ := mem_sOf hd
          rw [ho'] at ho2; injection ho2 with ho2; subst ho2
          rw [← hon]; exact (hdep e he hb).2
        refine (law.store o ho' x w' hO (needsJ_of _ (fun e he hb => hR _ (by have := (hdep e (by simpa using he) hb).1; omega) (hdep e (by simpa using he) hb).2)) (hP (hda a hsa) (hda c hsc)) (hR a ham (hda a hsa)) (hR c hcm (hda c hsc))).mono (fun v w2 hv => ⟨fun h => absurd ((did_set hl (by omega)).2 (.inl rfl)) h, fun _ => ⟨(hO.mono (fun q _ h => hF q h)).trans hv.2.1, fun j hj hd => ?_⟩⟩)
        rcases (did_set hl (by omega)).1 hd with e | e
        · subst e
          rw [upd_same, hmap v _ hown]
          unfold relP; rw [if_neg (fun e => has e.symm), if_neg (fun e => hcs e.symm)]; exact hv.1
        · have hji : j ≠ i := fun e' => hnd (by rw [← e']; exact e)
          rw [upd_other x v hji, hmap v _ (hdown j hj e)]
          unfold relP
          by_cases hja : j = a
          · rw [if_pos hja, hja]; exact hv.2.2.1
          · rw [if_neg hja]
            by_cases hjc : j = c
            · rw [if_pos hjc, hjc]; exact hv.2.2.2
            · rw [if_neg hjc]
              have hst := law.stable j (by omega)
              rw [if_neg (by rintro (h | h | h) <;> contradiction)] at hst
              exact hst _ _ _ _ (hR j hj e) hv.2.1
      · -- ahead of the store
        have key : ∀ v w2, rs0 Rs i ((ds0 Ds i).map x) v w2 → Only F w' w2 → (i = a → ∀ y ys, rs0 Rs c ys y w' → Pr v y w2) → (i = c → ∀ y ys, rs0 Rs a ys y w' → Pr y v w2) →
            (¬ Did (listed.setIfInBounds i true) s → Only F w.drew w2 ∧ (∀ j, j < m → Did (listed.setIfInBounds i true) j → rs0 Rs j ((ds0 Ds j).map (upd x i v)) (upd x i v j) w2) ∧ (Did (listed.setIfInBounds i true) a → Did (listed.setIfInBounds i true) c → Pr (upd x i v a) (upd x i v c) w2)) := fun v w2 h1 h2 h3 h4 _ => by
          refine ⟨hO.trans h2, fun j hj hd => ?_, fun hda hdc => ?_⟩
          · rcases (did_set hl (by omega)).1 hd with e | e
            · subst e; rw [upd_same, hmap v _ hown]; exact h1
            · have hji : j ≠ i := fun e' => hnd (by rw [← e']; exact e)
              rw [upd_other x v hji, hmap v _ (hdown j hj e)]
              have hst := law.stable j (by omega)
              by_cases hj3 : j = a ∨ j = c ∨ j = s
              · rw [if_pos hj3] at hst; exact hst _ _ _ _ (hR j hj e) h2
              · rw [if_neg hj3] at hst; exact hst _ _ _ _ (hR j hj e) (h2.mono (fun q _ h => hF q h))
          · rcases (did_set hl (by omega)).1 hda with e | e
            · subst e
              have hca : c ≠ a := fun e => hac e.symm
              rcases (did_set hl (by omega)).1 hdc with e2 | e2
              · exact absurd e2 hca
              · rw [upd_same, upd_other x v hca]; exact h3 rfl _ _ (hR c hcm e2)
            · have hai : a ≠ i := fun e' => hnd (by rw [← e']; exact e)
              rw [upd_other x v hai]
              rcases (did_set hl (by omega)).1 hdc with e2 | e2
              · subst e2; rw [upd_same]; exact h4 rfl _ _ (hR a ham e)
              · have hci : c ≠ i := fun e' => hnd (by rw [← e']; exact e2)
                rw [upd_other x v hci]; exact law.stP _ _ _ _ (hP e e2) h2
        have hns : ¬ Did (listed.setIfInBounds i true) s := fun h => by
          rcases (did_set hl (by omega)).1 h with e | e
          · exact his e.symm
          · exact hds_ e
        have hneeds := needsJ_of (Rs := Rs) (Ds := Ds) (x := x) (w := w') o.after.toList (fun e he hb => hR _ (by have := (hdep e (by simpa using he) hb).1; omega) (hdep e (by simpa using he) hb).2)
        by_cases hiL : i ∈ L
        · have hld := List.all_eq_true.1 hLd i hiL
          rw [ho'] at hld
          have hld : ((o.after.any fun e => Region.binds .any e && e.on == s) || o.after.all fun e => !Region.binds .any e || (e.on != a && e.on != c)) = true := hld
          rw [Bool.or_eq_true] at hld
          have hne : ∀ e ∈ o.after.toList, Region.binds .any e = true → e.on ≠ a ∧ e.on ≠ c := fun e he hb => by
            rcases hld with hld | hld
            · exfalso
              rw [Array.any_eq_true'] at hld
              obtain ⟨e', he', hb'⟩ := hld
              rw [Bool.and_eq_true] at hb'
              have := (hdep e' he' hb'.1).2
              rw [show e'.on = s from by simpa using hb'.2] at this
              exact hds_ this
            · rw [Array.all_eq_true'] at hld
              have := hld e (by simpa using he)
              simpa [hb] using this
          exact (law.late i o hiL (by omega) ho' x w' (hO.mono (fun q _ h => hF q h)) (needsJ_of _ (fun e he hb => by
            rw [setR_get (by omega) (by omega) hac]; unfold relP; rw [if_neg (hne e he hb).1, if_neg (hne e he hb).2]
            exact hR _ (by have := (hdep e (by simpa using he) hb).1; omega) (hdep e (by simpa using he) hb).2))).mono (fun v w2 hv => ⟨key v w2 hv.1 hv.2 (fun e => absurd hiL (by rw [e]; exact hLa)) (fun e => absurd hiL (by rw [e]; exact hLc)), fun h => absurd h hns⟩)
        · exact (law.early i o (by omega) ho' his hiL x w' hO hneeds).mono (fun v w2 hv => ⟨key v w2 hv.1 hv.2.1 hv.2.2.1 hv.2.2.2, fun h => absurd h hns⟩)
  · have : o = ol := by
      have h : l[m]? = some o := by simpa using ho
      rw [hol] at h; injection h with h; exact h.symm
    subst this
    have := hJ.2 (hall s hsm)
    exact last x w' this.1 (fun i hi => this.2 i hi (hall i hi))
/-! The same, operation by operation -/
def StepsE (P : Program) (l : List Oper) (F : Nat → Prop) (Rs : List RelJ) (Ds : List (List Nat)) (ds : List (Option Tmp)) (a0 : Act) (w0 : World) (s a c : Nat) (L : List Nat) (Pr : Value → Value → World → Prop) : Nat → List Oper → List RelJ → List (List Nat) → Prop
  | k, o :: os, r :: rs, D :: Es => (if k = s ∨ k ∈ L then True else ∀ x w', Only F w0 w' → NeedsJ Rs Ds x w' o.after.toList → ∀ T : Value → World → Prop, Hid (∀ v w2, r (D.map x) v w2 → Only F w' w2 → (if k = a then ∀ y ys, rs0 Rs c ys y w' → Pr v y w2 else if k = c then ∀ y ys, rs0 Rs a ys y w' → Pr y v w2 else True) → T v w2) → StepTo P l.toArray o (putAll ds 0 x a0) w' T) ∧ StepsE P l F Rs Ds ds a0 w0 s a c L Pr (k + 1) os rs Es
  | _, _, _, _ => True
def StepsL (P : Program) (l : List Oper) (F F1 : Nat → Prop) (Rs' : List RelJ) (Ds : List (List Nat)) (ds : List (Option Tmp)) (a0 : Act) (w0 : World) (L : List Nat) : Nat → List Oper → List RelJ → List (List Nat) → Prop
  | k, o :: os, r :: rs, D :: Es => (if k ∈ L then ∀ x w', Only F1 w0 w' → NeedsJ Rs' Ds x w' o.after.toList → ∀ T : Value → World → Prop, Hid (∀ v w2, r (D.map x) v w2 → Only F w' w2 → T v w2) → StepTo P l.toArray o (putAll ds 0 x a0) w' T else True) ∧ StepsL P l F F1 Rs' Ds ds a0 w0 L (k + 1) os rs Es
  | _, _, _, _ => True
def StableE (F F1 : Nat → Prop) (s a c : Nat) : Nat → List RelJ → Prop
  | k, r :: rs => (if k = a ∨ k = c ∨ k = s then StableJ F r else StableJ F1 r) ∧ StableE F F1 s a c (k + 1) rs
  | _, [] => True
theorem stableE_get {F F1 : Nat → Prop} {s a c : Nat} : ∀ (rs : List RelJ) (k i : Nat), StableE F F1 s a c k rs → i < rs.length → (if k + i = a ∨ k + i = c ∨ k + i = s then StableJ F (rs0 rs i) else StableJ F1 (rs0 rs i))
  | [], _, _, _, h => by simp at h
  | r :: rs, k, 0, h, _ => h.1
  | r :: rs, k, i + 1, h, hi => by
    have := stableE_get rs (k + 1) i h.2 (by simpa using hi)
    rw [show k + 1 + i = k + (i + 1) from by omega] at this
    exact this
theorem stepsE_get {F : Nat → Prop} {l : List Oper} {Rs : List RelJ} {Ds : List (List Nat)} {ds : List (Option Tmp)} {a0 : Act} {w0 : World} {s a c : Nat} {L : List Nat} {Pr : Value → Value → World → Prop} : ∀ (os : List Oper) (rs : List RelJ) (Es : List (List Nat)) (k i : Nat) (o : Oper), StepsE P l F Rs Ds ds a0 w0 s a c L Pr k os rs Es → i < rs.length → i < Es.length → os[i]? = some o → k + i ≠ s → k + i ∉ L →
    ∀ x w', Only F w0 w' → NeedsJ Rs Ds x w' o.after.toList → StepTo P l.toArray o (putAll ds 0 x a0) w' (fun v w2 => rs0 rs i ((ds0 Es i).map x) v w2 ∧ Only F w' w2 ∧ (k + i = a → ∀ y ys, rs0 Rs c ys y w' → Pr v y w2) ∧ (k + i = c → k + i ≠ a → ∀ y ys, rs0 Rs a ys y w' → Pr y v w2))
  | [], _, _, _, _, _, _, _, _, ho, _, _ => by simp at ho
  | _ :: _, [], _, _, _, _, _, hi, _, _, _, _ => by simp at hi
  | _ :: _, _ :: _, [], _, _, _, _, _, hi, _, _, _ => by simp at hi
  | o' :: os, r :: rs, D :: Es, k, 0, o, h, _, _, ho, hs, hL => by
    simp at ho; subst ho
    intro x w' hO hN
    have h1 := h.1
    rw [if_neg (show ¬ (k = s ∨ k ∈ L) by rintro (h | h); exact hs h; exact hL h)] at h1
    refine h1 x w' hO hN _ (Lib.hid (fun v w2 q1 q2 q3 => ⟨q1, q2, fun hk => ?_, fun hk hka => ?_⟩))
    · rw [if_pos (show k = a from hk)] at q3; exact q3
    · rw [if_neg (show ¬ k = a from hka), if_pos (show k = c from hk)] at q3; exact q3
  | o' :: os, r :: rs, D :: Es, k, i + 1, o, h, hi, hi2, ho, hs, hL => by
    have := stepsE_get os rs Es (k + 1) i o h.2 (by simpa using hi) (by simpa using hi2) (by simpa using ho) (by omega) (by rw [show k + 1 + i = k + (i + 1) from by omega]; exact hL)
    rw [show k + 1 + i = k + (i + 1) from by omega] at this
    exact this
theorem stepsL_get {F F1 : Nat → Prop} {l : List Oper} {Rs' : List RelJ} {Ds : List (List Nat)} {ds : List (Option Tmp)} {a0 : Act} {w0 : World} {L : List Nat} : ∀ (os : List Oper) (rs : List RelJ) (Es : List (List Nat)) (k i : Nat) (o : Oper), StepsL P l F F1 Rs' Ds ds a0 w0 L k os rs Es → i < rs.length → i < Es.length → os[i]? = some o → k + i ∈ L →
    ∀ x w', Only F1 w0 w' → NeedsJ Rs' Ds x w' o.after.toList → StepTo P l.toArray o (putAll ds 0 x a0) w' (fun v w2 => rs0 rs i ((ds0 Es i).map x) v w2 ∧ Only F w' w2)
  | [], _, _, _, _, _, _, _, _, ho, _ => by simp at ho
  | _ :: _, [], _, _, _, _, _, hi, _, _, _ => by simp at hi
  | _ :: _, _ :: _, [], _, _, _, _, _, hi, _, _ => by simp at hi
  | o' :: os, r :: rs, D :: Es, k, 0, o, h, _, _, ho, hL => by
    simp at ho; subst ho
    intro x w' hO hN
    have h1 := h.1
    rw [if_pos (show k ∈ L from hL)] at h1
    exact h1 x w' hO hN _ (Lib.hid (fun v w2 q1 q2 => ⟨q1, q2⟩))
  | o' :: os, r :: rs, D :: Es, k, i + 1, o, h, hi, hi2, ho, hL => by
    have := stepsL_get os rs Es (k + 1) i o h.2 (by simpa using hi) (by simpa using hi2) (by simpa using ho) (by rw [show k + 1 + i = k + (i + 1) from by omega]; exact hL)
    exact this
def HoldsP (a c : Nat) (Ra Rc : RelJ) : Nat → List RelJ → List (List Nat) → (Nat → Value) → World → Prop
  | k, r :: rs, D :: Ds, x, w => (if k = a then Ra else if k = c then Rc else r) (D.map x) (x k) w ∧ HoldsP a c Ra Rc (k + 1) rs Ds x w
  | _, _, _, _, _ => True
theorem holdsP_of {a c : Nat} {Ra Rc : RelJ} {x : Nat → Value} {w : World} : ∀ (Rs : List RelJ) (Ds : List (List Nat)) (k : Nat), (∀ i, i < Rs.length → i < Ds.length → (if k + i = a then Ra else if k + i = c then Rc else rs0 Rs i) ((ds0 Ds i).map x) (x (k + i)) w) → HoldsP a c Ra Rc k Rs Ds x w
  | [], _, _, _ => by simp [HoldsP]
  | _ :: _, [], _, _ => by simp [HoldsP]
  | r :: rs, D :: Ds, k, h => ⟨h 0 (by simp) (by simp), holdsP_of rs Ds (k + 1) (fun i hi hi2 => by
      have := h (i + 1) (by simpa using hi) (by simpa using hi2)
      rw [show k + (i + 1) = k + 1 + i from by omega] at this
      exact this)⟩
/-- THE LAW of the pair: a (a new block) and c (a call) in either order, then s, a store into the block. -/
theorem wp_region_pairs {id : Nat} {l : List Oper} {a0 : Act} {w : World} (m : Nat) (hm : P.follows .mixedOrders = true) (hsz : l.length = m + 1) (hsh : shapeB l.toArray m = true) (ds : List (Option Tmp)) (hds : (l.take m).map (·.dst) = ds) (hap : apartB ds = true)
    (F F1 : Nat → Prop) (hF : ∀ q, F q → F1 q) (Ds : List (List Nat)) (hDs : Ds.length = m) (hdb : depB l.toArray Ds = true) (Rs : List RelJ) (hRs : Rs.length = m) (s a c : Nat) (L : List Nat) (hL : lateB l m s a c L = true) (hLd : lateD l s a c L = true) (Ra Rc : RelJ) (Pr : Value → Value → World → Prop) (ol : Oper) (hol : l[m]? = some ol) (os_ : Oper) (hos : l[s]? = some os_)
    (hst : StableE F F1 s a c 0 Rs) (hRa : StableJ F Ra) (hRc : StableJ F Rc) (hPr : ∀ u v w w', Pr u v w → Only F w w' → Pr u v w')
    (early : StepsE P l F Rs Ds ds a0 w.drew s a c L Pr 0 l Rs Ds)
    (late : StepsL P l F F1 (setR Rs a c Ra Rc) Ds ds a0 w.drew L 0 l Rs Ds)
    (store : ∀ x w', Only F w.drew w' → NeedsJ Rs Ds x w' os_.after.toList → Pr (x a) (x c) w' → ∀ T : Value → World → Prop, Hid (∀ v w2, rs0 Rs s ((ds0 Ds s).map x) v w2 → Only F1 w' w2 → Ra ((ds0 Ds a).map x) (x a) w2 → Rc ((ds0 Ds c).map x) (x c) w2 → T v w2) → StepTo P l.toArray os_ (putAll ds 0 x a0) w' T)
    (last : ∀ x w', Only F1 w.drew w' → HoldsP a c Ra Rc 0 Rs Ds x w' → wpList P l.toArray Q [ol] (putAll ds 0 x a0) w') : (Code.region id l.toArray true).wp P Q a0 w := by
  have hac : a ≠ c := by
    unfold lateB at hL
    simp only [Bool.and_eq_true, decide_eq_true_eq] at hL
    exact hL.1.1.1.1.1.2
  refine wp_region_pair m hm hsz hsh ds hds hap F F1 hF Ds hDs hdb Rs hRs s a c L hL hLd Ra Rc Pr ol hol
    ⟨fun i hi => ?_, hRa, hRc, hPr, fun i o hi ho his hiL x w' hO hN => ?_, fun o ho x w' hO hN hP _ _ => ?_, fun i o hiL hi ho x w' hO hN => ?_⟩
    (fun x w' hO hR => last x w' hO (holdsP_of Rs Ds 0 (fun i hi hi2 => ?_)))
  · have := stableE_get Rs 0 i hst hi
    rw [Nat.zero_add] at this; exact this
  · refine (stepsE_get l Rs Ds 0 i o early hi (by omega) ho (by omega) (by rw [Nat.zero_add]; exact hiL) x w' hO hN).mono (fun v w2 hv => ?_)
    rw [Nat.zero_add] at hv
    exact ⟨hv.1, hv.2.1, hv.2.2.1, fun hc => hv.2.2.2 hc (fun h => hac (h.symm.trans hc))⟩
  · rw [hos] at ho; injection ho with ho; subst ho
    exact store x w' hO hN hP _ (Lib.hid (fun v w2 q1 q2 q3 q4 => ⟨q1, q2, q3, q4⟩))
  · exact stepsL_get l Rs Ds 0 i o late hi (by omega) ho (by rw [Nat.zero_add]; exact hiL) x w' hO hN
  · rw [Nat.zero_add]; exact hR i (by omega)
end
end Go.Proofs.YtgephneppgcnlaaGreatDoor
