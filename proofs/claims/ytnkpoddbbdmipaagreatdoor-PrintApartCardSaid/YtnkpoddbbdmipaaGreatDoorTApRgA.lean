/- . -/
import Derived.Test.YtnkpoddbbdmipaaGreatDoorTApOwC
import Derived.Orders
import Derived.Lib.Hide
namespace Go.Proofs.YtnkpoddbbdmipaaGreatDoor
open Go Go.RowKit
open Go.Lib (hid)
set_option linter.unusedVariables false
set_option linter.unusedSimpArgs false
def upd (x : Nat → Value) (i : Nat) (v : Value) : Nat → Value := fun j => if j = i then v else x j
theorem upd_same (x : Nat → Value) (i : Nat) (v : Value) : upd x i v i = v := if_pos rfl
theorem upd_other (x : Nat → Value) {i j : Nat} (v : Value) (h : j ≠ i) : upd x i v j = x j := if_neg h
theorem eI {a b : Value} (h : a = b) : a = b := h
theorem eX {α : Sort _} (a : α) : ∃ x, a = x := ⟨a, rfl⟩
theorem gE {α : Type} {l : Array α} {i : Nat} {a : α} (h : l[i]? = some a) : ∃ h : i < l.size, l[i] = a := Array.getElem?_eq_some_iff.1 h
theorem kB {S : Nat → Prop} {w w2 : World} {b : Nat} {c : Obj} (o : Only S w w2) (h : w.heap[b]? = some c) (n : ¬ S b) : w2.heap[b]? = some c := (o.block b (gE h).1 n).trans h
theorem oR {S : Nat → Prop} {w : World} : Only S w w := Only.refl S w
theorem zA {α : Type} (l : List α) (i : Nat) (a : α) : l.toArray.setIfInBounds i a = (l.set i a).toArray := List.setIfInBounds_toArray l i a
theorem zB {α : Type} (a b : α) (l : List α) (n : Nat) : (a :: l).set (n + 1) b = a :: l.set n b := rfl
theorem zC {α : Type} (a b : α) (l : List α) : (a :: l).set 0 b = b :: l := rfl
def putAll : List (Option Tmp) → Nat → (Nat → Value) → Act → Act
 | [], _, _, a => a
 | d :: ds, k, x, a => putAll ds (k + 1) x (a.put d (x k))
theorem put_put (a : Act) (d : Option Tmp) (u v : Value) : (a.put d u).put d v = a.put d v := by
 cases d <;> simp [Act.put]
theorem put_comm (a : Act) (d e : Option Tmp) (u v : Value) (h : d = none ∨ d ≠ e) : (a.put d u).put e v = (a.put e v).put d u := by
 cases d with
 | none => cases e <;> simp [Act.put]
 | some d => cases e with
  | none => simp [Act.put]
  | some e =>
   have hne : d ≠ e := by rintro rfl; simp at h
   simp only [Act.put, Act.mk.injEq, and_true]
   apply Array.ext_getElem?
   intro i; simp only [Array.getElem?_setIfInBounds, Array.size_setIfInBounds]
   by_cases h1 : e = i
   ·subst h1; simp [hne]
   ·simp [h1]
theorem put_own (a : Act) (d : Option Tmp) : ∃ u, a.put d u = a := by
 cases d with
 | none => exact ⟨undef, rfl⟩
 | some d =>
  refine ⟨a.tmps.getD d undef, ?_⟩
  obtain ⟨tmps, defers⟩ := a; simp only [Act.put, Act.mk.injEq, and_true]
  apply Array.ext_getElem?
  intro i; simp only [Array.getElem?_setIfInBounds]
  split
  ·subst_vars
   split
   ·simp_all
   ·rw [Array.getElem?_eq_none (by omega)]
  ·rfl
theorem putAll_put : ∀ (ds : List (Option Tmp)) (k : Nat) (x : Nat → Value) (a : Act) (d : Option Tmp) (v : Value), (d = none ∨ d ∉ ds) → (putAll ds k x a).put d v = putAll ds k x (a.put d v)
 | [], _, _, _, _, _, _ => rfl
 | e :: ds, k, x, a, d, v, h => by
  have h' : d = none ∨ d ∉ ds := h.imp id (fun h => fun hm => h (List.mem_cons_of_mem _ hm)); simp only [putAll]; rw [putAll_put ds (k + 1) x _ d v h', put_comm a d e v (x k) (h.imp id (fun h e' => h (e' ▸ List.mem_cons_self)))]
theorem putAll_agree : ∀ (ds : List (Option Tmp)) (k : Nat) (x y : Nat → Value) (a : Act), (∀ j, k ≤ j → x j = y j) → putAll ds k x a = putAll ds k y a
 | [], _, _, _, _, _ => rfl
 | e :: ds, k, x, y, a, h => by
  simp only [putAll]; rw [h k (Nat.le_refl _), putAll_agree ds (k + 1) x y _ (fun j hj => h j (by omega))]
def apartB : List (Option Tmp) → Bool
 | [] => true
 | d :: ds => (d == none || !ds.contains d) && apartB ds
theorem putAll_upd : ∀ (ds : List (Option Tmp)) (k : Nat) (x : Nat → Value) (a : Act) (i : Nat) (d : Option Tmp) (v : Value), apartB ds = true → k ≤ i → ds[i - k]? = some d → (putAll ds k x a).put d v = putAll ds k (upd x i v) a
 | [], _, _, _, i, _, _, _, _, hd => by simp at hd
 | e :: ds, k, x, a, i, d, v, h, hk, hd => by
  simp only [apartB, Bool.and_eq_true, Bool.or_eq_true, beq_iff_eq, Bool.not_eq_true', List.contains_eq_mem, decide_eq_false_iff_not] at h
  by_cases hi : i = k
  ·subst hi; simp at hd; subst hd; simp only [putAll]; rw [putAll_put ds _ x _ e v h.1, put_put, upd_same]; exact putAll_agree ds _ _ _ _ (fun j hj => (upd_other x v (by omega)).symm)
  ·simp only [putAll]; rw [upd_other x v (by omega)]; refine putAll_upd ds (k + 1) x _ i d v h.2 (by omega) ?_
   have : i - k = i - (k + 1) + 1 := by omega
   rw [this, List.getElem?_cons_succ] at hd; exact hd
theorem putAll_own : ∀ (ds : List (Option Tmp)) (k : Nat) (a : Act), ∃ x, putAll ds k x a = a
 | [], _, _ => ⟨fun _ => undef, rfl⟩
 | d :: ds, k, a => by
  obtain ⟨u, hu⟩ := put_own a d; obtain ⟨x, hx⟩ := putAll_own ds (k + 1) a; refine ⟨upd x k u, ?_⟩
  simp only [putAll]; rw [upd_same, hu, ← putAll_agree ds (k + 1) x _ a (fun j hj => (upd_other x u (by omega)).symm), hx]
section
variable {P : Program} {ops : Array Oper} {Q : Exit → Act → World → Prop}
def Stepped (o : Oper) (a : Act) (T : Value → World → Prop) (e : Exit) (a' : Act) (w' : World) : Prop := e = .normal ∧ ∃ v, a' = a.put o.dst v ∧ T v w'
def StepTo (P : Program) (ops : Array Oper) (o : Oper) (a : Act) (w : World) (T : Value → World → Prop) : Prop :=
 wpList P ops (Stepped o a T) [o] a w
theorem oper_wp_only {o : Oper} {a : Act} {w : World} {K K' : Act → World → Prop} {Q' : Exit → Act → World → Prop} (hK : ∀ a w, K a w → K' a w) (hQ : ∀ e a w, Q' e a w → e = .normal) (h : o.wp P a w K Q') : o.wp P a w K' Q := by
 unfold Oper.wp at *
 generalize (execOp a.eval o).run P w = r at *
 cases r with
 | ok n w' =>
  cases n <;> simp only [Oper.upon] at h ⊢ <;>
   first
    | exact hK _ _ h
    | exact Calls.mono h (fun e w'' he => by
      cases e with
      | returned v => exact hK _ _ he
      | panicked c => exact absurd (hQ _ _ _ he) (by simp)
      | outgrown => obtain ⟨a1, w1, h1⟩ := he; exact absurd (hQ _ _ _ h1) (by simp))
    | exact Rows.mono h (fun _ _ he => hK _ _ he)
 | halt x w' =>
  cases x <;> simp only [Oper.upon] at h ⊢ <;> first | exact h | exact absurd (hQ _ _ _ h) (by simp)
theorem StepTo.op {o : Oper} {i : Nat} {a : Act} {w : World} {T : Value → World → Prop} {K : Act → World → Prop} (hi : ops[i]? = some o) (h : StepTo P ops o a w T) (hK : ∀ v w', T v w' → K (a.put o.dst v) w') : wpOp P ops Q i K a w := by
 unfold StepTo wpList at h; unfold wpOp; simp only [hi]
 split
 ·rename_i hw
  rw [if_pos hw] at h
  rcases h with h | ⟨_, a1, w1, h1, _⟩
  ·refine .inl (oper_wp_only (fun a' w' h => ?_) (fun e a' w' h => h.1) h)
   obtain ⟨_, v, rfl, ht⟩ := (h : _ ∧ _); exact hK v w' ht
  ·cases h1
 ·rename_i hw
  rw [if_neg hw] at h; obtain ⟨_, v, e, ht⟩ := (h : _ ∧ _); rw [e]; exact hK v w ht
theorem wpList_one_mono {o : Oper} {a : Act} {w : World} {Q1 Q2 : Exit → Act → World → Prop} (hQ : ∀ e a w, Q1 e a w → e = .normal) (h12 : ∀ a w, Q1 .normal a w → Q2 .normal a w) (h : wpList P ops Q1 [o] a w) : wpList P ops Q2 [o] a w := by
 unfold wpList at h ⊢
 split
 ·rename_i hw
  rw [if_pos hw] at h
  rcases h with h | ⟨_, a1, w1, h1⟩
  ·exact .inl (oper_wp_only (fun a' w' h => h12 a' w' h) hQ h)
  ·have := hQ _ _ _ h1; cases this
 ·rename_i hw
  rw [if_neg hw] at h; exact h12 _ _ h
theorem StepTo.mono {o : Oper} {a : Act} {w : World} {T T' : Value → World → Prop} (h : StepTo P ops o a w T) (hT : ∀ v w', T v w' → T' v w') : StepTo P ops o a w T' :=
 wpList_one_mono (fun e a w h => h.1) (fun a' w' ⟨h1, v, h2, h3⟩ => ⟨h1, v, h2, hT v w' h3⟩) h
theorem last_op {o : Oper} {i : Nat} {a : Act} {w : World} {K : Act → World → Prop} (hi : ops[i]? = some o) (h : wpList P ops Q [o] a w) (hK : ∀ a' w', Q .normal a' w' → K a' w') : wpOp P ops Q i K a w := by
 unfold wpList at h; unfold wpOp; simp only [hi]
 split
 ·rename_i hw
  rw [if_pos hw] at h; exact h.imp (Oper.wp_mono (fun a' w' h => hK a' w' h)) id
 ·rename_i hw
  rw [if_neg hw] at h; exact hK _ _ h
def shapeB (ops : Array Oper) (m : Nat) : Bool :=
 (List.range (m + 1)).all (fun i => (ops[i]?).any fun o => o.after.all fun e => !Region.binds .any e || decide (e.on < i)) &&
 (List.range m).all (fun i => (List.range (m + 1)).any fun k => decide (i < k) && (ops[k]?).any fun o => o.after.any fun e => Region.binds .any e && e.on == i)
theorem shape_back {m : Nat} (h : shapeB ops m = true) {i : Nat} {o : Oper} (hi : i ≤ m) (ho : ops[i]? = some o) : ∀ e ∈ o.after, Region.binds .any e = true → e.on < i := by
 simp only [shapeB, Bool.and_eq_true, List.all_eq_true, List.mem_range] at h; have := h.1 i (by omega); rw [ho] at this; simp only [Option.any_some, Array.all_eq_true_iff_forall_mem, Bool.or_eq_true, Bool.not_eq_true', decide_eq_true_eq] at this; exact fun e he hb => (this e he).resolve_left (by rw [hb]; simp)
theorem shape_fore {m : Nat} (h : shapeB ops m = true) {i : Nat} (hi : i < m) : ∃ k o, i < k ∧ k ≤ m ∧ ops[k]? = some o ∧ ∃ e ∈ o.after, Region.binds .any e = true ∧ e.on = i := by
 simp only [shapeB, Bool.and_eq_true, List.all_eq_true, List.mem_range, List.any_eq_true, decide_eq_true_eq] at h; obtain ⟨k, hk, hik, ho⟩ := h.2 i hi
 cases hq : ops[k]? with
 | none => rw [hq] at ho; simp at ho
 | some o =>
  rw [hq] at ho; simp only [Option.any_some, ← Array.any_toList, List.any_eq_true, Bool.and_eq_true, beq_iff_eq] at ho; obtain ⟨e, he, h1, h2⟩ := ho; rw [Array.mem_toList_iff] at he; exact ⟨k, o, hik, by omega, hq, e, he, h1, h2⟩
theorem mem_ready {listed : Array Bool} {i : Nat} : i ∈ Region.ready .any ops listed ↔ i < ops.size ∧ listed.getD i true = false ∧ ∃ o, ops[i]? = some o ∧ ∀ e ∈ o.after, Region.binds .any e = true → listed.getD e.on false = true := by
 simp only [Region.ready, List.mem_filter, List.mem_range, Bool.and_eq_true, Bool.not_eq_true']
 constructor
 ·rintro ⟨h1, h2, h3⟩; refine ⟨h1, h2, ?_⟩
  cases hq : ops[i]? with
  | none => rw [hq] at h3; simp at h3
  | some o =>
   rw [hq] at h3; simp only [Option.map_some, Option.getD_some, Array.all_eq_true_iff_forall_mem, Bool.or_eq_true, Bool.not_eq_true'] at h3; exact ⟨o, rfl, fun e he hb => (h3 e he).resolve_left (by rw [hb]; simp)⟩
 ·rintro ⟨h1, h2, o, h3, h4⟩; refine ⟨h1, h2, ?_⟩
  rw [h3]; simp only [Option.map_some, Option.getD_some, Array.all_eq_true_iff_forall_mem, Bool.or_eq_true, Bool.not_eq_true']; intro e he
  cases hb : Region.binds .any e with
  | false => exact .inl rfl
  | true => exact .inr (h4 e he hb)
theorem wpAny_all {fuel : Nat} {listed : Array Bool} {a : Act} {w : World} (h : Region.ready .any ops listed = []) (hQ : Q .normal a w) : wpAny P .any ops Q fuel listed a w := by
 cases fuel with
 | zero => exact ⟨h, hQ⟩
 | succ f => exact ⟨fun _ => hQ, fun i hi => by rw [h] at hi; cases hi⟩
def Did (listed : Array Bool) (i : Nat) : Prop := listed.getD i true = true
def Closed (ops : Array Oper) (m : Nat) (listed : Array Bool) : Prop := ∀ i o, ops[i]? = some o → i ≤ m → Did listed i → ∀ e ∈ o.after, Region.binds .any e = true → listed.getD e.on false = true
theorem getD_true {listed : Array Bool} {i : Nat} (hi : i < listed.size) (h : listed.getD i false = true) : listed.getD i true = true := by
 simp only [Array.getD_eq_getD_getElem?] at h ⊢; rw [Array.getElem?_eq_getElem hi] at h ⊢; simpa using h
theorem getD_false {listed : Array Bool} {i : Nat} (hi : i < listed.size) (h : listed.getD i true = true) : listed.getD i false = true := by
 simp only [Array.getD_eq_getD_getElem?] at h ⊢; rw [Array.getElem?_eq_getElem hi] at h ⊢; simpa using h
theorem set_getD {listed : Array Bool} {m i j : Nat} (hl : listed.size = m + 1) (hi : i ≤ m) : (listed.setIfInBounds i true).getD j true = if j = i then true else listed.getD j true := by
 simp only [Array.getD_eq_getD_getElem?, Array.getElem?_setIfInBounds]
 by_cases h : i = j
 ·subst h; have hlt : i < listed.size := by omega
  simp [hlt]
 ·rw [if_neg h, if_neg (fun e => h e.symm)]
theorem did_set {listed : Array Bool} {m i j : Nat} (hl : listed.size = m + 1) (hi : i ≤ m) : Did (listed.setIfInBounds i true) j ↔ j = i ∨ Did listed j := by
 unfold Did; rw [set_getD hl hi]
 split
 ·simp [*]
 ·simp [*]
theorem set_getD' {listed : Array Bool} {i j : Nat} (h : listed.getD j false = true) : (listed.setIfInBounds i true).getD j false = true := by
 simp only [Array.getD_eq_getD_getElem?, Array.getElem?_setIfInBounds] at h ⊢
 by_cases e : i = j
 ·subst e
  rcases Nat.lt_or_ge i listed.size with hb | hb
  ·simp [hb]
  ·rw [Array.getElem?_eq_none hb] at h; simp at h
 ·rw [if_neg e]; exact h
theorem wp_core {m : Nat} (hsz : ops.size = m + 1) (hsh : shapeB ops m = true) (ds : List (Option Tmp)) (hds : (ops.toList.take m).map (·.dst) = ds) (hap : apartB ds = true) (a0 : Act)
  (J : Array Bool → (Nat → Value) → World → Prop)
  (step : ∀ i o listed x w, i < m → ops[i]? = some o → listed.size = m + 1 → Closed ops m listed → ¬ Did listed i → (∀ e ∈ o.after, Region.binds .any e = true → e.on < i ∧ Did listed e.on) → J listed x w → StepTo P ops o (putAll ds 0 x a0) w (fun v w' => J (listed.setIfInBounds i true) (upd x i v) w'))
  (last : ∀ o listed x w, ops[m]? = some o → (∀ i, i < m → Did listed i) → J listed x w → wpList P ops Q [o] (putAll ds 0 x a0) w) :
  ∀ (fuel : Nat) (listed : Array Bool) (x : Nat → Value) (w : World), listed.size = m + 1 → listed.getD m true = false → ((List.range (m + 1)).filter (fun i => !listed.getD i true)).length ≤ fuel → Closed ops m listed → J listed x w → wpAny P .any ops Q fuel listed (putAll ds 0 x a0) w := by
 have hready : ∀ listed : Array Bool, listed.size = m + 1 → listed.getD m true = false → Region.ready .any ops listed ≠ [] := by
  intro listed hl hm hnil; have key : ∀ n, n ≤ m → listed.getD n true = false → (∀ j, j < n → listed.getD j true = true) → False := by
   intro n hn hnl hall; obtain ⟨o, ho⟩ : ∃ o, ops[n]? = some o := ⟨ops[n], Array.getElem?_eq_getElem (by omega)⟩; have hmem : n ∈ Region.ready .any ops listed := mem_ready.2 ⟨by omega, hnl, o, ho, fun e he hb => getD_false (by have := shape_back hsh hn ho e he hb; omega) (hall e.on (shape_back hsh hn ho e he hb))⟩; rw [hnil] at hmem; cases hmem
  have hex : ∃ n, n ≤ m ∧ listed.getD n true = false ∧ ∀ j, j < n → listed.getD j true = true := by
   have : ∀ k, k ≤ m + 1 → (∃ n, n < k ∧ listed.getD n true = false ∧ ∀ j, j < n → listed.getD j true = true) ∨ ∀ j, j < k → listed.getD j true = true := by
    intro k
    induction k with
    | zero => intro _; exact .inr (fun j hj => by omega)
    | succ k ih =>
     intro hk
     rcases ih (by omega) with ⟨n, h1, h2, h3⟩ | h
     ·exact .inl ⟨n, by omega, h2, h3⟩
     ·cases hq : listed.getD k true with
      | false => exact .inl ⟨k, by omega, hq, h⟩
      | true => exact .inr (fun j hj => by
        rcases Nat.lt_or_ge j k with h1 | h1
        ·exact h j h1
        ·obtain rfl : j = k := by omega
         exact hq)
   rcases this (m + 1) (Nat.le_refl _) with ⟨n, h1, h2, h3⟩ | h
   ·exact ⟨n, by omega, h2, h3⟩
   ·have := h m (by omega); rw [hm] at this; cases this
  obtain ⟨n, h1, h2, h3⟩ := hex; exact key n h1 h2 h3
 intro fuel
 induction fuel with
 | zero =>
  intro listed x w hl hm hf
  exfalso
  have : m ∈ (List.range (m + 1)).filter (fun i => !listed.getD i true) := by
   simp only [List.mem_filter, List.mem_range, Bool.not_eq_true']; exact ⟨by omega, hm⟩
  rw [List.eq_nil_of_length_eq_zero (Nat.le_zero.1 hf)] at this
  cases this
 | succ fuel ih =>
  intro listed x w hl hm hf hcl hJ; refine ⟨fun h => absurd h (hready listed hl hm), fun i hi => ?_⟩
  obtain ⟨hisz, hin, o, hio, hdep⟩ := mem_ready.1 hi
  rcases Nat.lt_or_ge i m with hlt | hge
  ·have hdi : ds[i - 0]? = some o.dst := by
    rw [← hds, Nat.sub_zero, List.getElem?_map, List.getElem?_take, if_pos hlt]; have : ops.toList[i]? = some o := by rw [Array.getElem?_toList]; exact hio
    rw [this]; rfl
   refine (step i o listed x w hlt hio hl hcl (by unfold Did; rw [hin]; simp) (fun e he hb => ⟨shape_back hsh (by omega) hio e he hb, getD_true (by have := shape_back hsh (by omega) hio e he hb; omega) (hdep e he hb)⟩) hJ).op hio (fun v w' hv => ?_)
   rw [putAll_upd ds 0 x a0 i o.dst v hap (Nat.zero_le _) hdi]; refine ih _ _ _ (by simpa using hl) (by rw [set_getD hl (by omega), if_neg (by omega)]; exact hm) ?_ (fun j oj hoj hjm hlj e he hb => ?_) hv
   ·have hlen : ((List.range (m + 1)).filter (fun j => !(listed.setIfInBounds i true).getD j true)).length < ((List.range (m + 1)).filter (fun j => !listed.getD j true)).length := by
     have hsub : (List.range (m + 1)).filter (fun j => !(listed.setIfInBounds i true).getD j true) = ((List.range (m + 1)).filter (fun j => !listed.getD j true)).filter (fun j => j != i) := by
      rw [List.filter_filter]
      apply List.filter_congr
      intro j hj; rw [set_getD hl (by omega)]
      by_cases e : j = i
      ·simp [e]
      ·simp [e]
     rw [hsub]; have hmem : i ∈ (List.range (m + 1)).filter (fun j => !listed.getD j true) := by
      simp only [List.mem_filter, List.mem_range, Bool.not_eq_true']; exact ⟨by omega, hin⟩
     exact List.length_filter_lt_length_iff_exists.2 ⟨i, hmem, by simp⟩
    omega
   ·rcases (did_set hl (by omega)).1 hlj with e' | e'
    ·subst e'; rw [hio] at hoj; injection hoj with hoj; subst hoj; exact set_getD' (hdep e he hb)
    ·exact set_getD' (hcl j oj hoj hjm e' e he hb)
  ·obtain rfl : i = m := by omega
   have hall : ∀ n j, j < i → i - j ≤ n → Did listed j := by
    intro n
    induction n with
    | zero => intro j h1 h2; omega
    | succ n ihn =>
     intro j h1 h2; obtain ⟨k, ok, hjk, hki, hok, e, he, hb, hon⟩ := shape_fore hsh h1; have hf : listed.getD e.on false = true := by
      rcases Nat.lt_or_ge k i with hk | hk
      ·exact hcl k ok hok (by omega) (ihn k hk (by omega)) e he hb
      ·obtain rfl : k = i := by omega
       rw [hio] at hok; injection hok with hok; subst hok; exact hdep e he hb
     rw [hon] at hf; exact getD_true (by omega) hf
   refine last_op hio (last o listed x w hio (fun j hj => hall i j hj (by omega)) hJ) (fun a' w' hQ => wpAny_all ?_ hQ)
   refine List.filter_eq_nil_iff.2 (fun j hj => ?_)
   have hj' : j < i + 1 := by rw [← hsz]; simpa using hj
   have : (listed.setIfInBounds i true).getD j true = true := by
    rw [set_getD hl (Nat.le_refl _)]
    by_cases e : j = i
    ·rw [if_pos e]
    ·rw [if_neg e]; exact hall i j (by omega) (by omega)
   rw [this]; simp
theorem wp_region_core {id : Nat} {l : List Oper} {a0 : Act} {w : World} (m : Nat) (hm : P.follows .mixedOrders = true) (hsz : l.toArray.size = m + 1) (hsh : shapeB l.toArray m = true) (ds : List (Option Tmp)) (hds : (l.take m).map (·.dst) = ds) (hap : apartB ds = true)
  (J : Array Bool → (Nat → Value) → World → Prop) (start : ∀ x, J (Array.replicate (m + 1) false) x w.drew)
  (step : ∀ i o listed x w, i < m → l.toArray[i]? = some o → listed.size = m + 1 → Closed l.toArray m listed → ¬ Did listed i → (∀ e ∈ o.after, Region.binds .any e = true → e.on < i ∧ Did listed e.on) → J listed x w → StepTo P l.toArray o (putAll ds 0 x a0) w (fun v w' => J (listed.setIfInBounds i true) (upd x i v) w'))
  (last : ∀ o listed x w, l.toArray[m]? = some o → (∀ i, i < m → Did listed i) → J listed x w → wpList P l.toArray Q [o] (putAll ds 0 x a0) w) : (Code.region id l.toArray true).wp P Q a0 w := by
 refine wp_region_any hm ?_
 obtain ⟨x, hx⟩ := putAll_own ds 0 a0; have hnd : ∀ i, i ≤ m → ¬ Did (Array.replicate l.toArray.size false) i := fun i hi h => by
  unfold Did at h; simp only [Array.getD_eq_getD_getElem?] at h; rw [Array.getElem?_replicate, if_pos (by omega)] at h; simp at h
 have h := wp_core (P := P) (Q := Q) (ops := l.toArray) hsz hsh ds (by simpa using hds) hap a0 J step last (l.toArray.size) (Array.replicate l.toArray.size false) x w.drew (by rw [Array.size_replicate, hsz]) (by
  simp only [Array.getD_eq_getD_getElem?]; rw [Array.getElem?_replicate, if_pos (by omega)]; rfl) (by
  rw [hsz]; exact Nat.le_trans (List.length_filter_le _ _) (by simp)) (fun i o _ hi h => absurd h (hnd i hi)) (by rw [hsz]; exact start x)
 rw [hx] at h; exact h
theorem wp_region_rel {id : Nat} {l : List Oper} {a0 : Act} {w : World} (m : Nat) (hm : P.follows .mixedOrders = true) (hsz : l.toArray.size = m + 1) (hsh : shapeB l.toArray m = true) (ds : List (Option Tmp)) (hds : (l.take m).map (·.dst) = ds) (hap : apartB ds = true)
  (F : Nat → Prop) (R : Nat → Value → World → Prop) (hmono : ∀ i v w w', R i v w → Only F w w' → R i v w')
  (step : ∀ i o, i < m → l.toArray[i]? = some o → ∀ x w', Only F w.drew w' → (∀ e ∈ o.after, Region.binds .any e = true → R e.on (x e.on) w') → StepTo P l.toArray o (putAll ds 0 x a0) w' (fun v w2 => R i v w2 ∧ Only F w' w2))
  (last : ∀ o, l.toArray[m]? = some o → ∀ x w', Only F w.drew w' → (∀ i, i < m → R i (x i) w') → wpList P l.toArray Q [o] (putAll ds 0 x a0) w') : (Code.region id l.toArray true).wp P Q a0 w := by
 refine wp_region_core m hm hsz hsh ds hds hap (fun listed x w' => Only F w.drew w' ∧ ∀ i, i < m → Did listed i → R i (x i) w') (fun x => ⟨Only.refl _ _, fun i hi h => ?_⟩) (fun i o listed x w' hi ho hl hcl hnd hdep hJ => ?_) (fun o listed x w' ho hall hJ => last o ho x w' hJ.1 (fun i hi => hJ.2 i hi (hall i hi)))
 ·exfalso; unfold Did at h
  simp only [Array.getD_eq_getD_getElem?] at h; rw [Array.getElem?_replicate, if_pos (by omega)] at h; simp at h
 ·refine (step i o hi ho x w' hJ.1 (fun e he hb => hJ.2 _ (by have := (hdep e he hb).1; omega) (hdep e he hb).2)).mono (fun v w2 hv => ⟨hJ.1.trans hv.2, fun j hj hd => ?_⟩)
  rcases (did_set hl (by omega)).1 hd with e | e
  ·subst e; rw [upd_same]; exact hv.1
  ·by_cases e' : j = i
   ·subst e'; rw [upd_same]; exact hv.1
   ·rw [upd_other x v e']; exact hmono j _ _ _ (hJ.2 j hj e) hv.2
def Stable (F : Nat → Prop) (r : Value → World → Prop) : Prop := ∀ v w w', r v w → Only F w w' → r v w'
theorem Stable.is (F : Nat → Prop) (c : Value) : Stable F (fun v _ => v = c) := fun _ _ _ h _ => h
theorem Stable.any (F : Nat → Prop) : Stable F (fun _ _ => True) := fun _ _ _ h _ => h
def AllStable (F : Nat → Prop) : List (Value → World → Prop) → Prop
 | [] => True
 | r :: rs => Stable F r ∧ AllStable F rs
def Holds : List (Value → World → Prop) → (Nat → Value) → Nat → World → Prop
 | [], _, _, _ => True
 | r :: rs, x, k, w => r (x k) w ∧ Holds rs x (k + 1) w
def Needs (Rs : List (Value → World → Prop)) (x : Nat → Value) (w : World) : List Edge → Prop
 | [] => True
 | e :: es => (Region.binds .any e = true → Rs.getD e.on (fun _ _ => True) (x e.on) w) ∧ Needs Rs x w es
def Steps (P : Program) (ops : Array Oper) (F : Nat → Prop) (Rs : List (Value → World → Prop)) (ds : List (Option Tmp)) (a0 : Act) (w0 : World) : List Oper → List (Value → World → Prop) → Prop
 | o :: os, r :: rs => (∀ x w', Only F w0 w' → Needs Rs x w' o.after.toList → ∀ T : Value → World → Prop, Hid (∀ v w2, r v w2 → Only F w' w2 → T v w2) → StepTo P ops o (putAll ds 0 x a0) w' T) ∧ Steps P ops F Rs ds a0 w0 os rs
 | _, _ => True
theorem needs_of {Rs : List (Value → World → Prop)} {x : Nat → Value} {w : World} : ∀ (es : List Edge), (∀ e ∈ es, Region.binds .any e = true → Rs.getD e.on (fun _ _ => True) (x e.on) w) → Needs Rs x w es
 | [], _ => trivial
 | e :: es, h => ⟨h e List.mem_cons_self, needs_of es (fun e' he => h e' (List.mem_cons_of_mem _ he))⟩
theorem holds_of {x : Nat → Value} {w : World} : ∀ (Rs : List (Value → World → Prop)) (k : Nat), (∀ i, i < Rs.length → Rs.getD i (fun _ _ => True) (x (k + i)) w) → Holds Rs x k w
 | [], _, _ => trivial
 | r :: rs, k, h => ⟨by have := h 0 (by simp); simpa using this, holds_of rs (k + 1) (fun i hi => by
   have := h (i + 1) (by simpa using hi); rw [show k + (i + 1) = k + 1 + i from by omega] at this
   simpa using this)⟩
theorem steps_get {F : Nat → Prop} {Rs : List (Value → World → Prop)} {ds : List (Option Tmp)} {a0 : Act} {w0 : World} : ∀ (os : List Oper) (rs : List (Value → World → Prop)) (i : Nat) (o : Oper), Steps P ops F Rs ds a0 w0 os rs → i < rs.length → os[i]? = some o →
  ∀ x w', Only F w0 w' → Needs Rs x w' o.after.toList → StepTo P ops o (putAll ds 0 x a0) w' (fun v w2 => rs.getD i (fun _ _ => True) v w2 ∧ Only F w' w2)
 | [], _, i, o, _, _, ho => by simp at ho
 | _ :: _, [], i, o, _, hi, _ => by simp at hi
 | o' :: os, r :: rs, 0, o, h, _, ho => by
  simp at ho; subst ho; exact fun x w' hO hN => h.1 x w' hO hN _ (hid (fun v w2 h1 h2 => ⟨h1, h2⟩))
 | o' :: os, r :: rs, i + 1, o, h, hi, ho => by
  have := steps_get os rs i o h.2 (by simpa using hi) (by simpa using ho); simpa using this
theorem stable_get {F : Nat → Prop} : ∀ (rs : List (Value → World → Prop)) (i : Nat), AllStable F rs → Stable F (rs.getD i (fun _ _ => True))
 | [], i, _ => by simpa using Stable.any F
 | r :: rs, 0, h => by simpa using h.1
 | r :: rs, i + 1, h => by simpa using stable_get rs i h.2
theorem wp_region_steps {id : Nat} {l : List Oper} {a0 : Act} {w : World} (m : Nat) (hm : P.follows .mixedOrders = true) (hsz : l.length = m + 1) (hsh : shapeB l.toArray m = true) (ds : List (Option Tmp)) (hds : (l.take m).map (·.dst) = ds) (hap : apartB ds = true)
  (F : Nat → Prop) (Rs : List (Value → World → Prop)) (hRs : Rs.length = m) (hst : AllStable F Rs) (ol : Oper) (hol : l[m]? = some ol)
  (step : Steps P l.toArray F Rs ds a0 w.drew l Rs)
  (last : ∀ x w', Only F w.drew w' → Holds Rs x 0 w' → wpList P l.toArray Q [ol] (putAll ds 0 x a0) w') : (Code.region id l.toArray true).wp P Q a0 w := by
 refine wp_region_rel m hm (by simpa using hsz) hsh ds hds hap F (fun i => Rs.getD i (fun _ _ => True)) (fun i v w w' h ho => stable_get Rs i hst v w w' h ho) (fun i o hi ho x w' hO hR => ?_) (fun o ho x w' hO hR => ?_)
 ·exact steps_get l Rs i o step (by omega) (by simpa using ho) x w' hO (needs_of _ (fun e he hb => hR e (by simpa using he) hb))
 ·have : o = ol := by
   have h : l[m]? = some o := by simpa using ho
   rw [hol] at h; injection h with h; exact h.symm
  subst this; refine last x w' hO (holds_of Rs 0 (fun i hi => ?_))
  rw [Nat.zero_add]; exact hR i (by omega)
def hangB (ops : Array Oper) (m s1 : Nat) (A : List Nat) : Bool :=
 A.all fun j => decide (j ≤ m) && (ops[j]?).any fun o => o.after.any fun e => Region.binds .any e && (e.on == s1 || A.contains e.on)
theorem hang_dep {m s1 : Nat} {A : List Nat} (h : hangB ops m s1 A = true) {j : Nat} (hj : j ∈ A) : j ≤ m ∧ ∃ o, ops[j]? = some o ∧ ∃ e ∈ o.after, Region.binds .any e = true ∧ (e.on = s1 ∨ e.on ∈ A) := by
 simp only [hangB, List.all_eq_true, Bool.and_eq_true, decide_eq_true_eq] at h; obtain ⟨h1, h2⟩ := h j hj; refine ⟨h1, ?_⟩
 cases hq : ops[j]? with
 | none => rw [hq] at h2; simp at h2
 | some o =>
  rw [hq] at h2; simp only [Option.any_some, ← Array.any_toList, List.any_eq_true, Bool.and_eq_true, Bool.or_eq_true, beq_iff_eq, List.contains_eq_mem, decide_eq_true_eq] at h2; obtain ⟨e, he, hb, h3⟩ := h2; rw [Array.mem_toList_iff] at he; exact ⟨o, rfl, e, he, hb, h3⟩
theorem hang_did {m s1 : Nat} {A : List Nat} {listed : Array Bool} (hl : listed.size = m + 1) (hsh : shapeB ops m = true) (hh : hangB ops m s1 A = true) (hcl : Closed ops m listed) (j : Nat) : j ∈ A → Did listed j → Did listed s1 := by
 induction j using Nat.strongRecOn with
 | _ j ih =>
  intro hj hd; obtain ⟨hjm, o, ho, e, he, hb, h⟩ := hang_dep hh hj; have hlt := shape_back hsh hjm ho e he hb; have hde : Did listed e.on := getD_true (by omega) (hcl j o ho hjm hd e he hb)
  rcases h with h | h
  ·rw [← h]; exact hde
  ·exact ih e.on hlt h hde
def preB (ops : Array Oper) (m s1 : Nat) (Bl : List Nat) : Bool :=
 Bl.all fun k => decide (k ≤ m) && (List.range (m + 1)).any fun j => (j == s1 || Bl.contains j) && (ops[j]?).any fun o => o.after.any fun e => Region.binds .any e && e.on == k
theorem pre_dep {m s1 : Nat} {Bl : List Nat} (h : preB ops m s1 Bl = true) {k : Nat} (hk : k ∈ Bl) : k ≤ m ∧ ∃ j, j ≤ m ∧ (j = s1 ∨ j ∈ Bl) ∧ ∃ o, ops[j]? = some o ∧ ∃ e ∈ o.after, Region.binds .any e = true ∧ e.on = k := by
 simp only [preB, List.all_eq_true, Bool.and_eq_true, decide_eq_true_eq, List.any_eq_true, List.mem_range, Bool.or_eq_true, beq_iff_eq, List.contains_eq_mem] at h; obtain ⟨h1, j, hj, hor, h2⟩ := h k hk; refine ⟨h1, j, by omega, hor, ?_⟩
 cases hq : ops[j]? with
 | none => rw [hq] at h2; simp at h2
 | some o =>
  rw [hq] at h2; simp only [Option.any_some, ← Array.any_toList, List.any_eq_true, Bool.and_eq_true, beq_iff_eq] at h2; obtain ⟨e, he, hb, h3⟩ := h2; rw [Array.mem_toList_iff] at he; exact ⟨o, rfl, e, he, hb, h3⟩
theorem pre_did {m s1 : Nat} {Bl : List Nat} {listed : Array Bool} (hl : listed.size = m + 1) (hsh : shapeB ops m = true) (hh : preB ops m s1 Bl = true) (hcl : Closed ops m listed) (h1 : Did listed s1) : ∀ (n k : Nat), m - k ≤ n → k ∈ Bl → Did listed k := by
 intro n
 induction n with
 | zero =>
  intro k hn hk; obtain ⟨hkm, j, hj, hor, o, ho, e, he, hb, hon⟩ := pre_dep hh hk; have := shape_back hsh hj ho e he hb; omega
 | succ n ih =>
  intro k hn hk; obtain ⟨hkm, j, hj, hor, o, ho, e, he, hb, hon⟩ := pre_dep hh hk; have hlt := shape_back hsh hj ho e he hb; have hdj : Did listed j := by
   rcases hor with rfl | hor
   ·exact h1
   ·exact ih j (by omega) hor
  rw [← hon]; exact getD_true (by omega) (hcl j o ho hj hdj e he hb)
def mvW (s1 s2 : Nat) (F1 F2 : Nat → Prop) (Bl : List Nat) (k : Nat) : Nat → Prop := if (k == s1 || Bl.contains k) = true then fun _ => False else if k = s2 then F1 else fun q => F1 q ∨ F2 q
def mvE (s1 s2 : Nat) (F1 F2 : Nat → Prop) (k : Nat) : Nat → Prop := if k = s1 then F1 else if k = s2 then F2 else fun _ => False
def mvS (s1 s2 : Nat) (F1 F2 : Nat → Prop) (A : List Nat) (k : Nat) : Nat → Prop := if k = s2 then fun _ => False else if (k == s1 || A.contains k) = true then F2 else fun q => F1 q ∨ F2 q
theorem wp_region_mv {id : Nat} {l : List Oper} {a0 : Act} {w : World} (m : Nat) (hm : P.follows .mixedOrders = true) (hsz : l.toArray.size = m + 1) (hsh : shapeB l.toArray m = true) (ds : List (Option Tmp)) (hds : (l.take m).map (·.dst) = ds) (hap : apartB ds = true)
  (s1 s2 : Nat) (F1 F2 : Nat → Prop) (A : List Nat) (hA : hangB l.toArray m s1 A = true) (Bl : List Nat) (hBl : preB l.toArray m s1 Bl = true) (hs : s1 ≠ s2) (hs1 : s1 < m) (hs2 : m < s2 ∨ (s2 < m ∧ s2 ∈ A))
  (R : Nat → Value → World → Prop) (hmono : ∀ i v w w', R i v w → Only (mvS s1 s2 F1 F2 A i) w w' → R i v w')
  (step : ∀ i o, i < m → l.toArray[i]? = some o → ∀ x w', Only (mvW s1 s2 F1 F2 Bl i) w.drew w' → (∀ e ∈ o.after, Region.binds .any e = true → R e.on (x e.on) w') → StepTo P l.toArray o (putAll ds 0 x a0) w' (fun v w2 => R i v w2 ∧ Only (mvE s1 s2 F1 F2 i) w' w2))
  (last : ∀ o, l.toArray[m]? = some o → ∀ x w', Only (fun q => F1 q ∨ F2 q) w.drew w' → (∀ i, i < m → R i (x i) w') → wpList P l.toArray Q [o] (putAll ds 0 x a0) w') : (Code.region id l.toArray true).wp P Q a0 w := by
 have hnd : ∀ i, i ≤ m → ¬ Did (Array.replicate (m + 1) false) i := fun i hi h => by
  unfold Did at h; simp only [Array.getD_eq_getD_getElem?] at h; rw [Array.getElem?_replicate, if_pos (by omega)] at h; simp at h
 refine wp_region_core m hm hsz hsh ds hds hap (fun listed x w' => Only (fun q => (Did listed s1 ∧ F1 q) ∨ ((s2 < m ∧ Did listed s2) ∧ F2 q)) w.drew w' ∧ ∀ i, i < m → Did listed i → R i (x i) w') (fun x => ⟨Only.refl _ _, fun i hi h => absurd h (hnd i (by omega))⟩) (fun i o listed x w' hi ho hl hcl hn hdep hJ => ?_) (fun o listed x w' ho hall hJ => last o ho x w' (hJ.1.mono (fun q _ h => h.imp (·.2) (·.2))) (fun i hi => hJ.2 i hi (hall i hi)))
 have h12 : s2 < m → Did listed s2 → Did listed s1 := fun hlt hd => by
  rcases hs2 with h | ⟨_, h⟩
  ·omega
  ·exact hang_did hl hsh hA hcl s2 h hd
 have hW : Only (mvW s1 s2 F1 F2 Bl i) w.drew w' := by
  unfold mvW
  split
  ·rename_i e
   have hn1 : ¬ Did listed s1 := fun h => by
    simp only [Bool.or_eq_true, beq_iff_eq, List.contains_eq_mem, decide_eq_true_eq] at e
    rcases e with e | e
    ·exact hn (e ▸ h)
    ·exact hn (pre_did hl hsh hBl hcl h _ i (Nat.le_refl _) e)
   exact hJ.1.mono (fun q _ h => by
    rcases h with ⟨h, _⟩ | ⟨⟨h0, h⟩, _⟩
    ·exact hn1 h
    ·exact hn1 (h12 h0 h))
  ·split
   ·rename_i e
    exact hJ.1.mono (fun q _ h => by
     rcases h with ⟨_, h⟩ | ⟨⟨_, h⟩, _⟩
     ·exact h
     ·exact absurd h (e ▸ hn))
   ·exact hJ.1.mono (fun q _ h => h.imp (·.2) (·.2))
 refine (step i o hi ho x w' hW (fun e he hb => hJ.2 _ (by have := (hdep e he hb).1; omega) (hdep e he hb).2)).mono (fun v w2 hv => ⟨?_, fun j hj hd => ?_⟩)
 ·have h1 : Only (fun q => (Did (listed.setIfInBounds i true) s1 ∧ F1 q) ∨ ((s2 < m ∧ Did (listed.setIfInBounds i true) s2) ∧ F2 q)) w.drew w' := hJ.1.mono (fun q _ h => h.imp (fun h => ⟨(did_set hl (by omega)).2 (.inr h.1), h.2⟩) (fun h => ⟨⟨h.1.1, (did_set hl (by omega)).2 (.inr h.1.2)⟩, h.2⟩)); refine h1.trans (hv.2.mono (fun q _ h => ?_))
  unfold mvE at h
  split at h
  ·rename_i e; exact .inl ⟨(did_set hl (by omega)).2 (.inl e.symm), h⟩
  ·split at h
   ·rename_i e; exact .inr ⟨⟨by omega, (did_set hl (by omega)).2 (.inl e.symm)⟩, h⟩
   ·exact h.elim
 ·by_cases e' : j = i
  ·subst e'; rw [upd_same]; exact hv.1
  ·rw [upd_other x v e']; have hdj : Did listed j := ((did_set hl (by omega)).1 hd).resolve_left e'; refine hmono j _ _ _ (hJ.2 j hj hdj) (hv.2.mono (fun q _ h => ?_))
   unfold mvE at h; unfold mvS
   split at h
   ·rename_i e
    -- s1 is being carried out: neither s2 nor what hangs on it was ahead of it
    have hj1 : j ≠ s1 := fun h => e' (h.trans e.symm)
    split
    ·rename_i ej
     rcases hs2 with hp | ⟨hp, _⟩
     ·omega
     ·exact absurd (e ▸ h12 hp (ej ▸ hdj)) hn
    ·split
     ·rename_i hor
      simp only [Bool.or_eq_true, beq_iff_eq, List.contains_eq_mem, decide_eq_true_eq] at hor
      rcases hor with hor | hor
      ·exact absurd hor hj1
      ·exact absurd (e ▸ hang_did hl hsh hA hcl j hor hdj) hn
     ·exact .inl h
   ·split at h
    ·rename_i e1 e
     have hj2 : j ≠ s2 := fun h => e' (h.trans e.symm)
     rw [if_neg hj2]
     split
     ·exact h
     ·exact .inr h
    ·exact h.elim
def StableM (s1 s2 : Nat) (F1 F2 : Nat → Prop) (A : List Nat) : List (Value → World → Prop) → Nat → Prop
 | [], _ => True
 | r :: rs, k => Stable (mvS s1 s2 F1 F2 A k) r ∧ StableM s1 s2 F1 F2 A rs (k + 1)
def StepsM (P : Program) (ops : Array Oper) (s1 s2 : Nat) (F1 F2 : Nat → Prop) (Bl : List Nat) (Rs : List (Value → World → Prop)) (ds : List (Option Tmp)) (a0 : Act) (w0 : World) : List Oper → List (Value → World → Prop) → Nat → Prop
 | o :: os, r :: rs, k => (∀ x w', Only (mvW s1 s2 F1 F2 Bl k) w0 w' → Needs Rs x w' o.after.toList → ∀ T : Value → World → Prop, Hid (∀ v w2, r v w2 → Only (mvE s1 s2 F1 F2 k) w' w2 → T v w2) → StepTo P ops o (putAll ds 0 x a0) w' T) ∧ StepsM P ops s1 s2 F1 F2 Bl Rs ds a0 w0 os rs (k + 1)
 | _, _, _ => True
theorem stepsM_get {s1 s2 : Nat} {F1 F2 : Nat → Prop} {Bl : List Nat} {Rs : List (Value → World → Prop)} {ds : List (Option Tmp)} {a0 : Act} {w0 : World} : ∀ (os : List Oper) (rs : List (Value → World → Prop)) (k i : Nat) (o : Oper), StepsM P ops s1 s2 F1 F2 Bl Rs ds a0 w0 os rs k → i < rs.length → os[i]? = some o →
  ∀ x w', Only (mvW s1 s2 F1 F2 Bl (k + i)) w0 w' → Needs Rs x w' o.after.toList → StepTo P ops o (putAll ds 0 x a0) w' (fun v w2 => rs.getD i (fun _ _ => True) v w2 ∧ Only (mvE s1 s2 F1 F2 (k + i)) w' w2)
 | [], _, _, i, o, _, _, ho => by simp at ho
 | _ :: _, [], _, i, o, _, hi, _ => by simp at hi
 | o' :: os, r :: rs, k, 0, o, h, _, ho => by
  simp at ho; subst ho; exact fun x w' hO hN => h.1 x w' hO hN _ (hid (fun v w2 h1 h2 => ⟨h1, h2⟩))
 | o' :: os, r :: rs, k, i + 1, o, h, hi, ho => by
  have := stepsM_get os rs (k + 1) i o h.2 (by simpa using hi) (by simpa using ho); rw [show k + 1 + i = k + (i + 1) from by omega] at this; simpa using this
theorem stableM_get {s1 s2 : Nat} {F1 F2 : Nat → Prop} {A : List Nat} : ∀ (rs : List (Value → World → Prop)) (k i : Nat), StableM s1 s2 F1 F2 A rs k → Stable (mvS s1 s2 F1 F2 A (k + i)) (rs.getD i (fun _ _ => True))
 | [], _, i, _ => by simpa using Stable.any _
 | r :: rs, k, 0, h => by simpa using h.1
 | r :: rs, k, i + 1, h => by
  have := stableM_get rs (k + 1) i h.2; rw [show k + 1 + i = k + (i + 1) from by omega] at this; simpa using this
theorem wp_region_stepsM {id : Nat} {l : List Oper} {a0 : Act} {w : World} (m : Nat) (hm : P.follows .mixedOrders = true) (hsz : l.length = m + 1) (hsh : shapeB l.toArray m = true) (ds : List (Option Tmp)) (hds : (l.take m).map (·.dst) = ds) (hap : apartB ds = true)
  (s1 s2 : Nat) (F1 F2 : Nat → Prop) (A : List Nat) (hA : hangB l.toArray m s1 A = true) (Bl : List Nat) (hBl : preB l.toArray m s1 Bl = true) (hs : s1 ≠ s2) (hs1 : s1 < m) (hs2 : m < s2 ∨ (s2 < m ∧ s2 ∈ A))
  (Rs : List (Value → World → Prop)) (hRs : Rs.length = m) (hst : StableM s1 s2 F1 F2 A Rs 0) (ol : Oper) (hol : l[m]? = some ol)
  (step : StepsM P l.toArray s1 s2 F1 F2 Bl Rs ds a0 w.drew l Rs 0)
  (last : ∀ x w', Only (fun q => F1 q ∨ F2 q) w.drew w' → Holds Rs x 0 w' → wpList P l.toArray Q [ol] (putAll ds 0 x a0) w') : (Code.region id l.toArray true).wp P Q a0 w := by
 refine wp_region_mv m hm (by simpa using hsz) hsh ds hds hap s1 s2 F1 F2 A hA Bl hBl hs hs1 hs2 (fun i => Rs.getD i (fun _ _ => True)) (fun i v w w' h ho => by have := stableM_get Rs 0 i hst; rw [Nat.zero_add] at this; exact this v w w' h ho) (fun i o hi ho x w' hO hR => ?_) (fun o ho x w' hO hR => ?_)
 ·have := stepsM_get l Rs 0 i o step (by omega) (by simpa using ho) x w'; rw [Nat.zero_add] at this; exact this hO (needs_of _ (fun e he hb => hR e (by simpa using he) hb))
 ·have : o = ol := by
   have h : l[m]? = some o := by simpa using ho
   rw [hol] at h; injection h with h; exact h.symm
  subst this; refine last x w' hO (holds_of Rs 0 (fun i hi => ?_))
  rw [Nat.zero_add]; exact hR i (by omega)
end
section
variable {P : Program} {ops : Array Oper} {Q : Exit → Act → World → Prop}
def mvW2 (s1 s2 : Nat) (F1 F2 : Nat → Prop) (Bl Bl2 : List Nat) (k : Nat) : Nat → Prop :=
 if (k == s1 || Bl.contains k) = true then (if (k == s2 || Bl2.contains k) = true then fun _ => False else F2) else (if (k == s2 || Bl2.contains k) = true then F1 else fun q => F1 q ∨ F2 q)
theorem wp_region_mv2 {id : Nat} {l : List Oper} {a0 : Act} {w : World} (m : Nat) (hm : P.follows .mixedOrders = true) (hsz : l.toArray.size = m + 1) (hsh : shapeB l.toArray m = true) (ds : List (Option Tmp)) (hds : (l.take m).map (·.dst) = ds) (hap : apartB ds = true)
  (s1 s2 : Nat) (F1 F2 : Nat → Prop) (A : List Nat) (hA : hangB l.toArray m s1 A = true) (Bl : List Nat) (hBl : preB l.toArray m s1 Bl = true) (Bl2 : List Nat) (hBl2 : s2 < m → preB l.toArray m s2 Bl2 = true) (hs : s1 ≠ s2) (hs1 : s1 < m) (hs2 : m < s2 ∨ (s2 < m ∧ s2 ∈ A))
  (R : Nat → Value → World → Prop) (hmono : ∀ i v w w', R i v w → Only (mvS s1 s2 F1 F2 A i) w w' → R i v w')
  (step : ∀ i o, i < m → l.toArray[i]? = some o → ∀ x w', Only (mvW2 s1 s2 F1 F2 Bl Bl2 i) w.drew w' → (∀ e ∈ o.after, Region.binds .any e = true → R e.on (x e.on) w') → StepTo P l.toArray o (putAll ds 0 x a0) w' (fun v w2 => R i v w2 ∧ Only (mvE s1 s2 F1 F2 i) w' w2))
  (last : ∀ o, l.toArray[m]? = some o → ∀ x w', Only (fun q => F1 q ∨ F2 q) w.drew w' → (∀ i, i < m → R i (x i) w') → wpList P l.toArray Q [o] (putAll ds 0 x a0) w') : (Code.region id l.toArray true).wp P Q a0 w := by
 have hnd : ∀ i, i ≤ m → ¬ Did (Array.replicate (m + 1) false) i := fun i hi h => by
  unfold Did at h; simp only [Array.getD_eq_getD_getElem?] at h; rw [Array.getElem?_replicate, if_pos (by omega)] at h; simp at h
 refine wp_region_core m hm hsz hsh ds hds hap (fun listed x w' => Only (fun q => (Did listed s1 ∧ F1 q) ∨ ((s2 < m ∧ Did listed s2) ∧ F2 q)) w.drew w' ∧ ∀ i, i < m → Did listed i → R i (x i) w') (fun x => ⟨Only.refl _ _, fun i hi h => absurd h (hnd i (by omega))⟩) (fun i o listed x w' hi ho hl hcl hn hdep hJ => ?_) (fun o listed x w' ho hall hJ => last o ho x w' (hJ.1.mono (fun q _ h => h.imp (·.2) (·.2))) (fun i hi => hJ.2 i hi (hall i hi)))
 have h12 : s2 < m → Did listed s2 → Did listed s1 := fun hlt hd => by
  rcases hs2 with h | ⟨_, h⟩
  ·omega
  ·exact hang_did hl hsh hA hcl s2 h hd
 have hW : Only (mvW2 s1 s2 F1 F2 Bl Bl2 i) w.drew w' := by
  have hn1 : (i == s1 || Bl.contains i) = true → ¬ Did listed s1 := fun e h => by
   simp only [Bool.or_eq_true, beq_iff_eq, List.contains_eq_mem, decide_eq_true_eq] at e
   rcases e with e | e
   ·exact hn (e ▸ h)
   ·exact hn (pre_did hl hsh hBl hcl h _ i (Nat.le_refl _) e)
  have hn2 : (i == s2 || Bl2.contains i) = true → s2 < m → ¬ Did listed s2 := fun e h0 h => by
   simp only [Bool.or_eq_true, beq_iff_eq, List.contains_eq_mem, decide_eq_true_eq] at e
   rcases e with e | e
   ·exact hn (e ▸ h)
   ·exact hn (pre_did hl hsh (hBl2 h0) hcl h _ i (Nat.le_refl _) e)
  unfold mvW2
  split
  ·rename_i e1
   split
   ·rename_i e2
    exact hJ.1.mono (fun q _ h => by
     rcases h with ⟨h, _⟩ | ⟨⟨h0, h⟩, _⟩
     ·exact hn1 e1 h
     ·exact hn2 e2 h0 h)
   ·exact hJ.1.mono (fun q _ h => by
     rcases h with ⟨h, _⟩ | ⟨⟨h0, h⟩, h2⟩
     ·exact absurd h (hn1 e1)
     ·exact h2)
  ·split
   ·rename_i e2
    exact hJ.1.mono (fun q _ h => by
     rcases h with ⟨_, h⟩ | ⟨⟨h0, h⟩, _⟩
     ·exact h
     ·exact absurd h (hn2 e2 h0))
   ·exact hJ.1.mono (fun q _ h => h.imp (·.2) (·.2))
 refine (step i o hi ho x w' hW (fun e he hb => hJ.2 _ (by have := (hdep e he hb).1; omega) (hdep e he hb).2)).mono (fun v w2 hv => ⟨?_, fun j hj hd => ?_⟩)
 ·have h1 : Only (fun q => (Did (listed.setIfInBounds i true) s1 ∧ F1 q) ∨ ((s2 < m ∧ Did (listed.setIfInBounds i true) s2) ∧ F2 q)) w.drew w' := hJ.1.mono (fun q _ h => h.imp (fun h => ⟨(did_set hl (by omega)).2 (.inr h.1), h.2⟩) (fun h => ⟨⟨h.1.1, (did_set hl (by omega)).2 (.inr h.1.2)⟩, h.2⟩)); refine h1.trans (hv.2.mono (fun q _ h => ?_))
  unfold mvE at h
  split at h
  ·rename_i e; exact .inl ⟨(did_set hl (by omega)).2 (.inl e.symm), h⟩
  ·split at h
   ·rename_i e; exact .inr ⟨⟨by omega, (did_set hl (by omega)).2 (.inl e.symm)⟩, h⟩
   ·exact h.elim
 ·by_cases e' : j = i
  ·subst e'; rw [upd_same]; exact hv.1
  ·rw [upd_other x v e']; have hdj : Did listed j := ((did_set hl (by omega)).1 hd).resolve_left e'; refine hmono j _ _ _ (hJ.2 j hj hdj) (hv.2.mono (fun q _ h => ?_))
   unfold mvE at h; unfold mvS
   split at h
   ·rename_i e
    -- s1 is being carried out: neither s2 nor what hangs on it was ahead of it
    have hj1 : j ≠ s1 := fun h => e' (h.trans e.symm)
    split
    ·rename_i ej
     rcases hs2 with hp | ⟨hp, _⟩
     ·omega
     ·exact absurd (e ▸ h12 hp (ej ▸ hdj)) hn
    ·split
     ·rename_i hor
      simp only [Bool.or_eq_true, beq_iff_eq, List.contains_eq_mem, decide_eq_true_eq] at hor
      rcases hor with hor | hor
      ·exact absurd hor hj1
      ·exact absurd (e ▸ hang_did hl hsh hA hcl j hor hdj) hn
     ·exact .inl h
   ·split at h
    ·rename_i e1 e
     have hj2 : j ≠ s2 := fun h => e' (h.trans e.symm)
     rw [if_neg hj2]
     split
     ·exact h
     ·exact .inr h
    ·exact h.elim
def StepsM2 (P : Program) (ops : Array Oper) (s1 s2 : Nat) (F1 F2 : Nat → Prop) (Bl Bl2 : List Nat) (Rs : List (Value → World → Prop)) (ds : List (Option Tmp)) (a0 : Act) (w0 : World) : List Oper → List (Value → World → Prop) → Nat → Prop
 | o :: os, r :: rs, k => (∀ x w', Only (mvW2 s1 s2 F1 F2 Bl Bl2 k) w0 w' → Needs Rs x w' o.after.toList → ∀ T : Value → World → Prop, Hid (∀ v w2, r v w2 → Only (mvE s1 s2 F1 F2 k) w' w2 → T v w2) → StepTo P ops o (putAll ds 0 x a0) w' T) ∧ StepsM2 P ops s1 s2 F1 F2 Bl Bl2 Rs ds a0 w0 os rs (k + 1)
 | _, _, _ => True
theorem stepsM2_get {s1 s2 : Nat} {F1 F2 : Nat → Prop} {Bl Bl2 : List Nat} {Rs : List (Value → World → Prop)} {ds : List (Option Tmp)} {a0 : Act} {w0 : World} : ∀ (os : List Oper) (rs : List (Value → World → Prop)) (k i : Nat) (o : Oper), StepsM2 P ops s1 s2 F1 F2 Bl Bl2 Rs ds a0 w0 os rs k → i < rs.length → os[i]? = some o →
  ∀ x w', Only (mvW2 s1 s2 F1 F2 Bl Bl2 (k + i)) w0 w' → Needs Rs x w' o.after.toList → StepTo P ops o (putAll ds 0 x a0) w' (fun v w2 => rs.getD i (fun _ _ => True) v w2 ∧ Only (mvE s1 s2 F1 F2 (k + i)) w' w2)
 | [], _, _, i, o, _, _, ho => by simp at ho
 | _ :: _, [], _, i, o, _, hi, _ => by simp at hi
 | o' :: os, r :: rs, k, 0, o, h, _, ho => by
  simp at ho; subst ho; exact fun x w' hO hN => h.1 x w' hO hN _ (hid (fun v w2 h1 h2 => ⟨h1, h2⟩))
 | o' :: os, r :: rs, k, i + 1, o, h, hi, ho => by
  have := stepsM2_get os rs (k + 1) i o h.2 (by simpa using hi) (by simpa using ho); rw [show k + 1 + i = k + (i + 1) from by omega] at this; simpa using this
theorem wp_region_stepsM2 {id : Nat} {l : List Oper} {a0 : Act} {w : World} (m : Nat) (hm : P.follows .mixedOrders = true) (hsz : l.length = m + 1) (hsh : shapeB l.toArray m = true) (ds : List (Option Tmp)) (hds : (l.take m).map (·.dst) = ds) (hap : apartB ds = true)
  (s1 s2 : Nat) (F1 F2 : Nat → Prop) (A : List Nat) (hA : hangB l.toArray m s1 A = true) (Bl : List Nat) (hBl : preB l.toArray m s1 Bl = true) (Bl2 : List Nat) (hBl2 : s2 < m → preB l.toArray m s2 Bl2 = true) (hs : s1 ≠ s2) (hs1 : s1 < m) (hs2 : m < s2 ∨ (s2 < m ∧ s2 ∈ A))
  (Rs : List (Value → World → Prop)) (hRs : Rs.length = m) (hst : StableM s1 s2 F1 F2 A Rs 0) (ol : Oper) (hol : l[m]? = some ol)
  (step : StepsM2 P l.toArray s1 s2 F1 F2 Bl Bl2 Rs ds a0 w.drew l Rs 0)
  (last : ∀ x w', Only (fun q => F1 q ∨ F2 q) w.drew w' → Holds Rs x 0 w' → wpList P l.toArray Q [ol] (putAll ds 0 x a0) w') : (Code.region id l.toArray true).wp P Q a0 w := by
 refine wp_region_mv2 m hm (by simpa using hsz) hsh ds hds hap s1 s2 F1 F2 A hA Bl hBl Bl2 hBl2 hs hs1 hs2 (fun i => Rs.getD i (fun _ _ => True)) (fun i v w w' h ho => by have := stableM_get Rs 0 i hst; rw [Nat.zero_add] at this; exact this v w w' h ho) (fun i o hi ho x w' hO hR => ?_) (fun o ho x w' hO hR => ?_)
 ·have := stepsM2_get l Rs 0 i o step (by omega) (by simpa using ho) x w'; rw [Nat.zero_add] at this; exact this hO (needs_of _ (fun e he hb => hR e (by simpa using he) hb))
 ·have : o = ol := by
   have h : l[m]? = some o := by simpa using ho
   rw [hol] at h; injection h with h; exact h.symm
  subst this; refine last x w' hO (holds_of Rs 0 (fun i hi => ?_))
  rw [Nat.zero_add]; exact hR i (by omega)
end
section
variable {P : Program} {ops : Array Oper} {Q : Exit → Act → World → Prop}
def StepX (P : Program) (ops : Array Oper) (Q : Exit → Act → World → Prop) (o : Oper) (a : Act) (w : World) (T : Value → World → Prop) : Prop :=
 wpList P ops (fun e a' w' => Stepped o a T e a' w' ∨ (e ≠ .normal ∧ Q e a' w')) [o] a w
theorem oper_wp_x {o : Oper} {a : Act} {w : World} {K K' : Act → World → Prop} {Q' : Exit → Act → World → Prop} (hK : ∀ a w, K a w → K' a w) (hQ : ∀ e a w, e ≠ .normal → Q' e a w → Q e a w) (h : o.wp P a w K Q') : o.wp P a w K' Q := by
 unfold Oper.wp at *
 generalize (execOp a.eval o).run P w = r at *
 cases r with
 | ok n w' =>
  cases n <;> simp only [Oper.upon] at h ⊢ <;>
   first
    | exact hK _ _ h
    | exact Calls.mono h (fun e w'' he => by
      cases e with
      | returned v => exact hK _ _ he
      | panicked c => exact hQ _ _ _ (by simp) he
      | outgrown => obtain ⟨a1, w1, h1⟩ := he; exact ⟨a1, w1, hQ _ _ _ (by simp) h1⟩)
    | exact Rows.mono h (fun _ _ he => hK _ _ he)
 | halt x w' =>
  cases x <;> simp only [Oper.upon] at h ⊢ <;> first | exact h | exact hQ _ _ _ (by simp) h
theorem StepX.op {o : Oper} {i : Nat} {a : Act} {w : World} {T : Value → World → Prop} {K : Act → World → Prop} (hi : ops[i]? = some o) (h : StepX P ops Q o a w T) (hK : ∀ v w', T v w' → K (a.put o.dst v) w') : wpOp P ops Q i K a w := by
 unfold StepX wpList at h; unfold wpOp; simp only [hi]; have hn : ∀ a' w', (Stepped o a T .normal a' w' ∨ (Exit.normal ≠ .normal ∧ Q .normal a' w')) → K a' w' := fun a' w' h => by
  rcases h with ⟨_, v, rfl, ht⟩ | ⟨h, _⟩
  ·exact hK v w' ht
  ·exact absurd rfl h
 have hx : ∀ e a' w', e ≠ .normal → (Stepped o a T e a' w' ∨ (e ≠ .normal ∧ Q e a' w')) → Q e a' w' := fun e a' w' hne h => by
  rcases h with ⟨h, _⟩ | ⟨_, h⟩
  ·exact absurd h hne
  ·exact h
 split
 ·rename_i hw
  rw [if_pos hw] at h
  rcases h with h | ⟨h0, a1, w1, h1⟩
  ·exact .inl (oper_wp_x (fun a' w' h => hn a' w' h) hx h)
  ·exact .inr ⟨h0, a1, w1, hx _ _ _ (by simp) h1⟩
 ·rename_i hw
  rw [if_neg hw] at h; exact hn _ _ h
theorem StepTo.x {o : Oper} {a : Act} {w : World} {T : Value → World → Prop} (h : StepTo P ops o a w T) : StepX P ops Q o a w T := by
 unfold StepTo wpList at h; unfold StepX wpList
 split
 ·rename_i hw
  rw [if_pos hw] at h
  rcases h with h | ⟨_, a1, w1, h1⟩
  ·exact .inl (oper_wp_x (fun a' w' h => .inl h) (fun e a' w' hne h => absurd h.1 hne) h)
  ·cases h1.1
 ·rename_i hw
  rw [if_neg hw] at h; exact .inl h
theorem StepX.mono {o : Oper} {a : Act} {w : World} {T T' : Value → World → Prop} (h : StepX P ops Q o a w T) (hT : ∀ v w', T v w' → T' v w') : StepX P ops Q o a w T' := by
 unfold StepX wpList at h ⊢
 split
 ·rename_i hw
  rw [if_pos hw] at h; refine h.imp (oper_wp_x (fun a' w' h => ?_) (fun e a' w' hne h => ?_)) (fun ⟨h0, a1, w1, h1⟩ => ⟨h0, a1, w1, ?_⟩)
  ·exact h.imp (fun ⟨h1, v, h2, h3⟩ => ⟨h1, v, h2, hT _ _ h3⟩) id
  ·exact h.imp (fun ⟨h1, v, h2, h3⟩ => ⟨h1, v, h2, hT _ _ h3⟩) id
  ·exact h1.imp (fun ⟨h1, v, h2, h3⟩ => ⟨h1, v, h2, hT _ _ h3⟩) id
 ·rename_i hw
  rw [if_neg hw] at h; exact h.imp (fun ⟨h1, v, h2, h3⟩ => ⟨h1, v, h2, hT _ _ h3⟩) id
theorem wp_coreX {m : Nat} (hsz : ops.size = m + 1) (hsh : shapeB ops m = true) (ds : List (Option Tmp)) (hds : (ops.toList.take m).map (·.dst) = ds) (hap : apartB ds = true) (a0 : Act)
  (J : Array Bool → (Nat → Value) → World → Prop)
  (step : ∀ i o listed x w, i < m → ops[i]? = some o → listed.size = m + 1 → Closed ops m listed → ¬ Did listed i → (∀ e ∈ o.after, Region.binds .any e = true → e.on < i ∧ Did listed e.on) → J listed x w → StepX P ops Q o (putAll ds 0 x a0) w (fun v w' => J (listed.setIfInBounds i true) (upd x i v) w'))
  (last : ∀ o listed x w, ops[m]? = some o → (∀ i, i < m → Did listed i) → J listed x w → wpList P ops Q [o] (putAll ds 0 x a0) w) :
  ∀ (fuel : Nat) (listed : Array Bool) (x : Nat → Value) (w : World), listed.size = m + 1 → listed.getD m true = false → ((List.range (m + 1)).filter (fun i => !listed.getD i true)).length ≤ fuel → Closed ops m listed → J listed x w → wpAny P .any ops Q fuel listed (putAll ds 0 x a0) w := by
 have hready : ∀ listed : Array Bool, listed.size = m + 1 → listed.getD m true = false → Region.ready .any ops listed ≠ [] := by
  intro listed hl hm hnil; have key : ∀ n, n ≤ m → listed.getD n true = false → (∀ j, j < n → listed.getD j true = true) → False := by
   intro n hn hnl hall; obtain ⟨o, ho⟩ : ∃ o, ops[n]? = some o := ⟨ops[n], Array.getElem?_eq_getElem (by omega)⟩; have hmem : n ∈ Region.ready .any ops listed := mem_ready.2 ⟨by omega, hnl, o, ho, fun e he hb => getD_false (by have := shape_back hsh hn ho e he hb; omega) (hall e.on (shape_back hsh hn ho e he hb))⟩; rw [hnil] at hmem; cases hmem
  have hex : ∃ n, n ≤ m ∧ listed.getD n true = false ∧ ∀ j, j < n → listed.getD j true = true := by
   have : ∀ k, k ≤ m + 1 → (∃ n, n < k ∧ listed.getD n true = false ∧ ∀ j, j < n → listed.getD j true = true) ∨ ∀ j, j < k → listed.getD j true = true := by
    intro k
    induction k with
    | zero => intro _; exact .inr (fun j hj => by omega)
    | succ k ih =>
     intro hk
     rcases ih (by omega) with ⟨n, h1, h2, h3⟩ | h
     ·exact .inl ⟨n, by omega, h2, h3⟩
     ·cases hq : listed.getD k true with
      | false => exact .inl ⟨k, by omega, hq, h⟩
      | true => exact .inr (fun j hj => by
        rcases Nat.lt_or_ge j k with h1 | h1
        ·exact h j h1
        ·obtain rfl : j = k := by omega
         exact hq)
   rcases this (m + 1) (Nat.le_refl _) with ⟨n, h1, h2, h3⟩ | h
   ·exact ⟨n, by omega, h2, h3⟩
   ·have := h m (by omega); rw [hm] at this; cases this
  obtain ⟨n, h1, h2, h3⟩ := hex; exact key n h1 h2 h3
 intro fuel
 induction fuel with
 | zero =>
  intro listed x w hl hm hf
  exfalso
  have : m ∈ (List.range (m + 1)).filter (fun i => !listed.getD i true) := by
   simp only [List.mem_filter, List.mem_range, Bool.not_eq_true']; exact ⟨by omega, hm⟩
  rw [List.eq_nil_of_length_eq_zero (Nat.le_zero.1 hf)] at this
  cases this
 | succ fuel ih =>
  intro listed x w hl hm hf hcl hJ; refine ⟨fun h => absurd h (hready listed hl hm), fun i hi => ?_⟩
  obtain ⟨hisz, hin, o, hio, hdep⟩ := mem_ready.1 hi
  rcases Nat.lt_or_ge i m with hlt | hge
  ·have hdi : ds[i - 0]? = some o.dst := by
    rw [← hds, Nat.sub_zero, List.getElem?_map, List.getElem?_take, if_pos hlt]; have : ops.toList[i]? = some o := by rw [Array.getElem?_toList]; exact hio
    rw [this]; rfl
   refine (step i o listed x w hlt hio hl hcl (by unfold Did; rw [hin]; simp) (fun e he hb => ⟨shape_back hsh (by omega) hio e he hb, getD_true (by have := shape_back hsh (by omega) hio e he hb; omega) (hdep e he hb)⟩) hJ).op hio (fun v w' hv => ?_)
   rw [putAll_upd ds 0 x a0 i o.dst v hap (Nat.zero_le _) hdi]; refine ih _ _ _ (by simpa using hl) (by rw [set_getD hl (by omega), if_neg (by omega)]; exact hm) ?_ (fun j oj hoj hjm hlj e he hb => ?_) hv
   ·have hlen : ((List.range (m + 1)).filter (fun j => !(listed.setIfInBounds i true).getD j true)).length < ((List.range (m + 1)).filter (fun j => !listed.getD j true)).length := by
     have hsub : (List.range (m + 1)).filter (fun j => !(listed.setIfInBounds i true).getD j true) = ((List.range (m + 1)).filter (fun j => !listed.getD j true)).filter (fun j => j != i) := by
      rw [List.filter_filter]
      apply List.filter_congr
      intro j hj; rw [set_getD hl (by omega)]
      by_cases e : j = i
      ·simp [e]
      ·simp [e]
     rw [hsub]; have hmem : i ∈ (List.range (m + 1)).filter (fun j => !listed.getD j true) := by
      simp only [List.mem_filter, List.mem_range, Bool.not_eq_true']; exact ⟨by omega, hin⟩
     exact List.length_filter_lt_length_iff_exists.2 ⟨i, hmem, by simp⟩
    omega
   ·rcases (did_set hl (by omega)).1 hlj with e' | e'
    ·subst e'; rw [hio] at hoj; injection hoj with hoj; subst hoj; exact set_getD' (hdep e he hb)
    ·exact set_getD' (hcl j oj hoj hjm e' e he hb)
  ·obtain rfl : i = m := by omega
   have hall : ∀ n j, j < i → i - j ≤ n → Did listed j := by
    intro n
    induction n with
    | zero => intro j h1 h2; omega
    | succ n ihn =>
     intro j h1 h2; obtain ⟨k, ok, hjk, hki, hok, e, he, hb, hon⟩ := shape_fore hsh h1; have hf : listed.getD e.on false = true := by
      rcases Nat.lt_or_ge k i with hk | hk
      ·exact hcl k ok hok (by omega) (ihn k hk (by omega)) e he hb
      ·obtain rfl : k = i := by omega
       rw [hio] at hok; injection hok with hok; subst hok; exact hdep e he hb
     rw [hon] at hf; exact getD_true (by omega) hf
   refine last_op hio (last o listed x w hio (fun j hj => hall i j hj (by omega)) hJ) (fun a' w' hQ => wpAny_all ?_ hQ)
   refine List.filter_eq_nil_iff.2 (fun j hj => ?_)
   have hj' : j < i + 1 := by rw [← hsz]; simpa using hj
   have : (listed.setIfInBounds i true).getD j true = true := by
    rw [set_getD hl (Nat.le_refl _)]
    by_cases e : j = i
    ·rw [if_pos e]
    ·rw [if_neg e]; exact hall i j (by omega) (by omega)
   rw [this]; simp
theorem wp_region_coreX {id : Nat} {l : List Oper} {a0 : Act} {w : World} (m : Nat) (hm : P.follows .mixedOrders = true) (hsz : l.toArray.size = m + 1) (hsh : shapeB l.toArray m = true) (ds : List (Option Tmp)) (hds : (l.take m).map (·.dst) = ds) (hap : apartB ds = true)
  (J : Array Bool → (Nat → Value) → World → Prop) (start : ∀ x, J (Array.replicate (m + 1) false) x w.drew)
  (step : ∀ i o listed x w, i < m → l.toArray[i]? = some o → listed.size = m + 1 → Closed l.toArray m listed → ¬ Did listed i → (∀ e ∈ o.after, Region.binds .any e = true → e.on < i ∧ Did listed e.on) → J listed x w → StepX P l.toArray Q o (putAll ds 0 x a0) w (fun v w' => J (listed.setIfInBounds i true) (upd x i v) w'))
  (last : ∀ o listed x w, l.toArray[m]? = some o → (∀ i, i < m → Did listed i) → J listed x w → wpList P l.toArray Q [o] (putAll ds 0 x a0) w) : (Code.region id l.toArray true).wp P Q a0 w := by
 refine wp_region_any hm ?_
 obtain ⟨x, hx⟩ := putAll_own ds 0 a0; have hnd : ∀ i, i ≤ m → ¬ Did (Array.replicate l.toArray.size false) i := fun i hi h => by
  unfold Did at h; simp only [Array.getD_eq_getD_getElem?] at h; rw [Array.getElem?_replicate, if_pos (by omega)] at h; simp at h
 have h := wp_coreX (P := P) (Q := Q) (ops := l.toArray) hsz hsh ds (by simpa using hds) hap a0 J step last (l.toArray.size) (Array.replicate l.toArray.size false) x w.drew (by rw [Array.size_replicate, hsz]) (by
  simp only [Array.getD_eq_getD_getElem?]; rw [Array.getElem?_replicate, if_pos (by omega)]; rfl) (by
  rw [hsz]; exact Nat.le_trans (List.length_filter_le _ _) (by simp)) (fun i o _ hi h => absurd h (hnd i hi)) (by rw [hsz]; exact start x)
 rw [hx] at h; exact h
def StepsD (P : Program) (ops : Array Oper) (Q : Exit → Act → World → Prop) (F : Nat → Prop) (Rs : List (Value → World → Prop)) (ds : List (Option Tmp)) (a0 : Act) (w0 : World) : List Oper → List (Value → World → Prop) → List Nat → Prop
 | o :: os, r :: rs, 0 :: ks => (∀ x w', Only F w0 w' → Needs Rs x w' o.after.toList → ∀ T : Value → World → Prop, Hid (∀ v w2, r v w2 → Only F w' w2 → T v w2) → StepTo P ops o (putAll ds 0 x a0) w' T) ∧ StepsD P ops Q F Rs ds a0 w0 os rs ks
 | o :: os, r :: rs, 1 :: ks => (∀ x w', Only F w0 w' → Needs Rs x w' o.after.toList → StepX P ops Q o (putAll ds 0 x a0) w' (fun _ _ => False)) ∧ StepsD P ops Q F Rs ds a0 w0 os rs ks
 | o :: os, r :: rs, (_ + 2) :: ks => StepsD P ops Q F Rs ds a0 w0 os rs ks
 | _, _, _ => True
theorem stepsD_get {F : Nat → Prop} {Rs : List (Value → World → Prop)} {ds : List (Option Tmp)} {a0 : Act} {w0 : World} : ∀ (os : List Oper) (rs : List (Value → World → Prop)) (ks : List Nat) (i : Nat) (o : Oper), StepsD P ops Q F Rs ds a0 w0 os rs ks → i < rs.length → i < ks.length → os[i]? = some o → ∀ x w', Only F w0 w' → Needs Rs x w' o.after.toList →
  (ks[i]? = some 0 → StepTo P ops o (putAll ds 0 x a0) w' (fun v w2 => rs.getD i (fun _ _ => True) v w2 ∧ Only F w' w2)) ∧ (ks[i]? = some 1 → StepX P ops Q o (putAll ds 0 x a0) w' (fun _ _ => False))
 | [], _, _, i, o, _, _, _, ho => by simp at ho
 | _ :: _, [], _, i, o, _, hi, _, _ => by simp at hi
 | _ :: _, _ :: _, [], i, o, _, _, hi, _ => by simp at hi
 | o' :: os, r :: rs, k :: ks, i, o, h, hi, hk, ho => by
  intro x w' hO hN
  cases i with
  | zero =>
   simp at ho; subst ho
   match k, h with
   | 0, h => exact ⟨fun _ => h.1 x w' hO hN _ (hid (fun v w2 h1 h2 => ⟨h1, h2⟩)), fun e => by simp at e⟩
   | 1, h => exact ⟨fun e => by simp at e, fun _ => h.1 x w' hO hN⟩
   | k + 2, h => exact ⟨fun e => by simp at e, fun e => by simp at e⟩
  | succ i =>
   have h' : StepsD P ops Q F Rs ds a0 w0 os rs ks := by
    match k, h with
    | 0, h => exact h.2
    | 1, h => exact h.2
    | k + 2, h => exact h
   have := stepsD_get os rs ks i o h' (by simpa using hi) (by simpa using hk) (by simpa using ho) x w' hO hN; simpa using this
theorem wp_region_dies {id : Nat} {l : List Oper} {a0 : Act} {w : World} (m : Nat) (hm : P.follows .mixedOrders = true) (hsz : l.length = m + 1) (hsh : shapeB l.toArray m = true) (ds : List (Option Tmp)) (hds : (l.take m).map (·.dst) = ds) (hap : apartB ds = true)
  (s : Nat) (hs : s < m) (A : List Nat) (hA : hangB l.toArray m s A = true) (F : Nat → Prop) (Rs : List (Value → World → Prop)) (hRs : Rs.length = m) (hst : AllStable F Rs) (ks : List Nat) (hks : (List.range m).map (fun i => if i = s then 1 else if i ∈ A then 2 else 0) = ks)
  (step : StepsD P l.toArray Q F Rs ds a0 w.drew l Rs ks) : (Code.region id l.toArray true).wp P Q a0 w := by
 have hnd : ∀ i, i ≤ m → ¬ Did (Array.replicate (m + 1) false) i := fun i hi h => by
  unfold Did at h; simp only [Array.getD_eq_getD_getElem?] at h; rw [Array.getElem?_replicate, if_pos (by omega)] at h; simp at h
 refine wp_region_coreX m hm (by simpa using hsz) hsh ds hds hap (fun listed x w' => Only F w.drew w' ∧ ¬ Did listed s ∧ ∀ i, i < m → Did listed i → Rs.getD i (fun _ _ => True) (x i) w') (fun x => ⟨Only.refl _ _, hnd s (by omega), fun i hi h => absurd h (hnd i (by omega))⟩) (fun i o listed x w' hi ho hl hcl hn hdep hJ => ?_) (fun o listed x w' ho hall hJ => absurd (hall s hs) hJ.2.1)
 have hkl : ks.length = m := by rw [← hks]; simp
 have hki : ks[i]? = some (if i = s then 1 else if i ∈ A then 2 else 0) := by
  rw [← hks, List.getElem?_map, List.getElem?_range hi]; rfl
 have hg := stepsD_get l Rs ks i o step (by omega) (by omega) (by simpa using ho) x w' hJ.1 (needs_of _ (fun e he hb => hJ.2.2 _ (by have := (hdep e (by simpa using he) hb).1; omega) (hdep e (by simpa using he) hb).2))
 by_cases h1 : i = s
 ·rw [if_pos h1] at hki; exact (hg.2 hki).mono (fun _ _ h => h.elim)
 ·rw [if_neg h1] at hki
  by_cases h2 : i ∈ A
  ·exfalso
   obtain ⟨him, o', ho', e, he, hb, hor⟩ := hang_dep hA h2; rw [ho] at ho'; injection ho' with ho'; subst ho'; have hde := (hdep e he hb).2
   rcases hor with h | h
   ·exact hJ.2.1 (h ▸ hde)
   ·exact hJ.2.1 (hang_did hl hsh hA hcl e.on h hde)
  ·rw [if_neg h2] at hki; refine ((hg.1 hki).mono (fun v w2 hv => ⟨hJ.1.trans hv.2, fun h => hJ.2.1 (((did_set hl (by omega)).1 h).resolve_left (fun e => h1 e.symm)), fun j hj hd => ?_⟩)).x
   by_cases e' : j = i
   ·subst e'; rw [upd_same]; exact hv.1
   ·rw [upd_other x v e']; exact stable_get Rs j hst _ _ _ (hJ.2.2 j hj (((did_set hl (by omega)).1 hd).resolve_left e')) hv.2
end
end Go.Proofs.YtnkpoddbbdmipaaGreatDoor
