/- . -/
import Derived.Test.YtnkpoddbbdmipaaGreatDoorTDcSdP
import Derived.Test.YtnkpoddbbdmipaaGreatDoorTDcPrB
namespace Go.Proofs.YtnkpoddbbdmipaaGreatDoor
set_option linter.unusedVariables false
set_option linter.unusedSimpArgs false
def EndR : List Tok → Prop
 | [] => False
 | [t] => t.kind = 0
 | _ :: t :: r => EndR (t :: r)
theorem EndR.tail {t : Tok} {r : List Tok} (h : EndR (t :: r)) (hk : t.kind ≠ 0) : EndR r := by
 cases r with
 | nil => exact absurd h hk
 | cons u r => exact h
theorem numP_bad {l : List UInt8} {o e : Nat} (h : numP l = .bad o e) : e ≠ 0 := by
 unfold numP at h; simp only at h
 repeat' split at h
 all_goals first
  | (injection h with _ h; omega)
  | cases h
theorem txtP_bad : ∀ (m : Nat) (l acc : List UInt8) (k : Nat) {o e : Nat}, l.length ≤ m → txtP acc k l = .bad o e → e ≠ 0
 | _, [], acc, k, o, e, _, h => by
  rw [txtP.eq_def] at h; injection h with _ h; omega
 | 0, c :: l, acc, k, o, e, hl, h => by simp at hl
 | m + 1, c :: l, acc, k, o, e, hl, h => by
  simp only [List.length_cons] at hl; rw [txtP.eq_def] at h; simp only at h
  split at h
  ·split at h
   ·injection h with _ h; omega
   ·cases h
  ·split at h
   ·injection h with _ h; omega
   ·split at h
    ·cases l with
     | nil => injection h with _ h; omega
     | cons d l' =>
      simp only [List.length_cons] at hl; simp only at h
      split at h
      ·exact txtP_bad m l' _ _ (by omega) h
      ·split at h
       ·exact txtP_bad m l' _ _ (by omega) h
       ·split at h
        ·exact txtP_bad m l' _ _ (by omega) h
        ·injection h with _ h; omega
    ·exact txtP_bad m l _ _ (by omega) h
theorem oneP_bad {l : List UInt8} {o e : Nat} (h : oneP l = .bad o e) : e ≠ 0 := by
 cases l with
 | nil => injection h with _ h; omega
 | cons c l =>
  rw [oneP_cons] at h
  split at h
  ·split at h
   ·injection h with _ h; omega
   ·cases h
  ·split at h
   ·exact numP_bad h
   ·split at h
    ·exact txtP_bad _ l _ _ (Nat.le_refl _) h
    ·split at h
     ·cases h
     ·split at h
      ·cases h
      ·injection h with _ h; omega
theorem toksF_bad : ∀ (f a : Nat) (l : List UInt8) {x e : Nat}, toksF f a l = .bad x e → e ≠ 0
 | 0, a, l, x, e, h => by injection h with _ h; omega
 | f + 1, a, [], x, e, h => by cases h
 | f + 1, a, c :: l, x, e, h => by
  unfold toksF at h
  split at h
  ·exact toksF_bad f _ _ h
  ·split at h
   ·exact toksF_bad f _ _ h
   ·split at h
    ·rename_i hq; injection h with _ h; subst h; exact oneP_bad hq
    ·exact toksF_bad f _ _ (Out.cons_bad h)
theorem toks_bad {s : List UInt8} {x e : Nat} (h : toks s = .bad x e) : e ≠ 0 := by
 unfold toks at h
 split at h
 ·injection h with _ h; omega
 ·exact toksF_bad _ _ _ h
theorem toksF_end : ∀ (f a : Nat) (l : List UInt8) {ts : List Tok}, toksF f a l = .ok ts → EndR ts ∧ ts.length ≤ l.length + 1
 | 0, a, l, ts, h => by cases h
 | f + 1, a, [], ts, h => by injection h with h; subst h; exact ⟨rfl, by simp⟩
 | f + 1, a, c :: l, ts, h => by
  unfold toksF at h
  split at h
  ·have := toksF_end f _ _ h; exact ⟨this.1, by simp only [List.length_cons]; omega⟩
  ·split at h
   ·have := toksF_end f _ _ h; exact ⟨this.1, by rw [List.length_drop] at this; simp only [List.length_cons]; omega⟩
   ·split at h
    ·cases h
    ·rename_i k t n len hq
     obtain ⟨us, h1, rfl⟩ := Out.cons_ok h; have := toksF_end f _ _ h1; have hl := oneP_len hq; refine ⟨?_, ?_⟩
     ·cases us with
      | nil => exact this.1.elim
      | cons u us => exact this.1
     ·rw [List.length_drop] at this; simp only [List.length_cons] at this hl ⊢; omega
theorem toks_end {s : List UInt8} {ts : List Tok} (h : toks s = .ok ts) : EndR ts ∧ ts.length ≤ 2001 := by
 obtain ⟨h1, h2⟩ := toks_ok h; have := toksF_end _ _ _ h2; exact ⟨this.1, by omega⟩
def RelT (S : Nat → Nat → Prop) : List Tok → List Tok → Prop
 | [], [] => True
 | t :: r, t' :: r' => (t.kind = t'.kind ∧ t.text = t'.text ∧ t.n = t'.n ∧ S t.at_ t'.at_) ∧ RelT S r r'
 | _, _ => False
def SimP {α : Type} (S : Nat → Nat → Prop) : PR α → PR α → Prop
 | .ok x r, .ok x' r' => x = x' ∧ RelT S r r' ∧ EndR r
 | .bad a e, .bad a' e' => e = e' ∧ S a a'
 | _, _ => False
def Sim {α : Type} (f : List Tok → PR α) : Prop := ∀ S r r', RelT S r r' → EndR r → SimP S (f r) (f r')
theorem RelT.len {S : Nat → Nat → Prop} : ∀ {r r' : List Tok}, RelT S r r' → r.length = r'.length
 | [], [], _ => rfl
 | _ :: r, _ :: r', h => by have := RelT.len h.2; simp only [List.length_cons]; omega
 | [], _ :: _, h => h.elim
 | _ :: _, [], h => h.elim
theorem EndR.ne {r : List Tok} (h : EndR r) : ∃ t u, r = t :: u := by
 cases r with
 | nil => exact h.elim
 | cons t u => exact ⟨t, u, rfl⟩
theorem RelT.cons {S : Nat → Nat → Prop} {r r' : List Tok} (h : RelT S r r') (he : EndR r) : ∃ t u t' u', r = t :: u ∧ r' = t' :: u' ∧ t.kind = t'.kind ∧ t.text = t'.text ∧ t.n = t'.n ∧ S t.at_ t'.at_ ∧ RelT S u u' := by
 obtain ⟨t, u, rfl⟩ := he.ne
 cases r' with
 | nil => exact h.elim
 | cons t' u' => exact ⟨t, u, t', u', rfl, rfl, h.1.1, h.1.2.1, h.1.2.2.1, h.1.2.2.2, h.2⟩
theorem relT_isS {S : Nat → Nat → Prop} {r r' : List Tok} (h : RelT S r r') (he : EndR r) (s : List UInt8) : isS s r' = isS s r := by
 obtain ⟨t, u, t', u', rfl, rfl, h1, h2, -⟩ := h.cons he; simp only [isS, h1, h2]
theorem relT_isW {S : Nat → Nat → Prop} {r r' : List Tok} (h : RelT S r r') (he : EndR r) (s : List UInt8) : isW s r' = isW s r := by
 obtain ⟨t, u, t', u', rfl, rfl, h1, h2, -⟩ := h.cons he; simp only [isW, h1, h2]
theorem relT_isK {S : Nat → Nat → Prop} {r r' : List Tok} (h : RelT S r r') (he : EndR r) (k : Nat) : isK k r' = isK k r := by
 obtain ⟨t, u, t', u', rfl, rfl, h1, -⟩ := h.cons he; simp only [isK, h1]
theorem relT_isT {S : Nat → Nat → Prop} {r r' : List Tok} (h : RelT S r r') (he : EndR r) (s : List UInt8) : isT s r' = isT s r := by
 unfold isT; rw [relT_isS h he, relT_isW h he]
theorem relT_at {S : Nat → Nat → Prop} {r r' : List Tok} (h : RelT S r r') (he : EndR r) : S (atT r) (atT r') := by
 obtain ⟨t, u, t', u', rfl, rfl, -, -, -, h4, -⟩ := h.cons he; exact h4
theorem relT_tail {S : Nat → Nat → Prop} {r r' : List Tok} (h : RelT S r r') (he : EndR r) (hk : isK 0 r = false) : RelT S r.tail r'.tail ∧ EndR r.tail := by
 obtain ⟨t, u, t', u', rfl, rfl, h1, h2, h3, h4, h5⟩ := h.cons he; exact ⟨h5, he.tail (by simpa [isK] using hk)⟩
theorem isS_k0 {s : List UInt8} {r : List Tok} (h : isS s r = true) : isK 0 r = false := by
 obtain ⟨t, u, rfl⟩ := isS_cons h; simp only [isS, Bool.and_eq_true, decide_eq_true_eq] at h; simp [isK, h.1]
theorem isT_k0 {s : List UInt8} {r : List Tok} (h : isT s r = true) : isK 0 r = false := by
 obtain ⟨t, u, rfl⟩ := isT_cons h; simp only [isT, isS, isW, Bool.or_eq_true, Bool.and_eq_true, decide_eq_true_eq] at h
 rcases h with h | h <;> simp [isK, h.1]
theorem sim_bind {α β : Type} {S : Nat → Nat → Prop} {p p' : PR α} {f g : α → List Tok → PR β} (h : SimP S p p') (hf : ∀ x r r', RelT S r r' → EndR r → SimP S (f x r) (g x r')) : SimP S (p.bind f) (p'.bind g) := by
 cases p with
 | ok x r => cases p' with
  | ok x' r' => obtain ⟨rfl, h2, h3⟩ := h; exact hf x r r' h2 h3
  | bad a e => exact h.elim
 | bad a e => cases p' with
  | ok x' r' => exact h.elim
  | bad a' e' => exact h
theorem sim_if {α : Type} {S : Nat → Nat → Prop} {c c' : Bool} {p q p' q' : PR α} (hc : c' = c) (h1 : c = true → SimP S p p') (h2 : c = false → SimP S q q') : SimP S (if c then p else q) (if c' then p' else q') := by
 subst hc
 cases c' with
 | true => exact h1 rfl
 | false => exact h2 rfl
theorem want_sim (s : List UInt8) : Sim (wantP s) := fun S r r' h e => by
 unfold wantP; refine sim_if (relT_isT h e s) (fun hs => ?_) (fun _ => ?_)
 ·obtain ⟨h1, h2⟩ := relT_tail h e (isT_k0 hs); exact ⟨rfl, h1, h2⟩
 ·exact ⟨rfl, relT_at h e⟩
theorem name_sim : Sim nameP := fun S r r' h e => by
 obtain ⟨t, u, t', u', rfl, rfl, h1, h2, h3, h4, h5⟩ := h.cons e
 show SimP S (if t.kind = 1 then .ok t.text u else .bad t.at_ 4) (if t'.kind = 1 then .ok t'.text u' else .bad t'.at_ 4)
 rw [h1, h2]
 split
 ·rename_i hk
  exact ⟨rfl, h5, e.tail (by omega)⟩
 ·exact ⟨rfl, h4⟩
theorem many_sim {α : Type} {f : List Tok → PR α} (hf : Sim f) (close : List UInt8) : ∀ (n : Nat) (acc : List α), Sim (manyP f close n acc)
 | 0, acc => fun S r r' h e => ⟨rfl, relT_at h e⟩
 | n + 1, acc => fun S r r' h e => by
  rw [manyP, manyP]; exact sim_bind (hf S r r' h e) fun x r1 r1' h e => sim_if (relT_isT h e close) (fun hs => by obtain ⟨h1, h2⟩ := relT_tail h e (isT_k0 hs); exact ⟨rfl, h1, h2⟩) (fun _ => many_sim hf close n _ S _ _ h e)
theorem any_sim {α : Type} {f : List Tok → PR α} (hf : Sim f) (close : List UInt8) : ∀ (n : Nat) (acc : List α), Sim (anyP f close n acc)
 | 0, acc => fun S r r' h e => ⟨rfl, relT_at h e⟩
 | n + 1, acc => fun S r r' h e => by
  rw [anyP, anyP]; exact sim_if (relT_isT h e close) (fun hs => by obtain ⟨h1, h2⟩ := relT_tail h e (isT_k0 hs); exact ⟨rfl, h1, h2⟩) (fun _ => sim_bind (hf S r r' h e) fun x r1 r1' h e => any_sim hf close n _ S _ _ h e)
theorem pair_sim {f : List Tok → PR VT} (hf : Sim f) : Sim (pairP f) := fun S r r' h e => sim_bind (name_sim S r r' h e) fun s r1 r1' h e => sim_bind (want_sim _ S r1 r1' h e) fun _ r2 r2' h e => sim_bind (hf S r2 r2' h e) fun v r3 r3' h e => ⟨rfl, h, e⟩
theorem valueB_eqn (fixed : Bool) (f : List Tok → PR VT) (t : Tok) (r : List Tok) : valueB fixed f (t :: r) =
  if t.kind = 2 then .ok (.mk 1 t.n [] [] []) r
  else if t.kind = 3 then .ok (.mk 2 0 t.text [] []) r
  else if isT wTrue (t :: r) then .ok (.mk 3 1 [] [] []) r
  else if isT wFalse (t :: r) then .ok (.mk 3 0 [] [] []) r
  else if isT wNull (t :: r) then .ok VT.zero r
  else if t.kind = 1 then .ok (.mk 4 0 t.text [] []) r
  else if !fixed && isT [36] (t :: r) then (nameP r).bind fun s r1 => .ok (.mk 7 0 s [] []) r1
  else if isT [91] (t :: r) then (anyP f [93] (r.length + 1) [] r).bind fun vs r1 => .ok (.mk 5 0 [] [] vs) r1
  else if isT [123] (t :: r) then (anyP (pairP f) [125] (r.length + 1) [] r).bind fun ps r1 => .ok (.mk 6 0 [] (ps.map (·.1)) (ps.map (·.2))) r1
  else .bad t.at_ 4 := rfl
theorem valueB_sim (fixed : Bool) {f : List Tok → PR VT} (hf : Sim f) : Sim (valueB fixed f) := fun S r r' h e => by
 have hT := fun s => relT_isT h e s
 obtain ⟨t, u, t', u', rfl, rfl, h1, h2, h3, h4, h5⟩ := h.cons e; have hl := h5.len; rw [valueB_eqn, valueB_eqn, hT, hT, hT, hT, hT, hT, ← h1, ← h2, ← h3, ← hl]; have hu : isT wTrue (t :: u) = true ∨ isT wFalse (t :: u) = true ∨ isT wNull (t :: u) = true ∨ isT [36] (t :: u) = true ∨ isT [91] (t :: u) = true ∨ isT [123] (t :: u) = true → EndR u := fun hh => by
  have : isK 0 (t :: u) = false := by rcases hh with hh | hh | hh | hh | hh | hh <;> exact isT_k0 hh
  exact e.tail (by simpa [isK] using this)
 split
 ·exact ⟨rfl, h5, e.tail (by omega)⟩
 ·split
  ·exact ⟨rfl, h5, e.tail (by omega)⟩
  ·split
   ·rename_i hh; exact ⟨rfl, h5, hu (.inl hh)⟩
   ·split
    ·rename_i hh; exact ⟨rfl, h5, hu (.inr (.inl hh))⟩
    ·split
     ·rename_i hh; exact ⟨rfl, h5, hu (.inr (.inr (.inl hh)))⟩
     ·split
      ·exact ⟨rfl, h5, e.tail (by omega)⟩
      ·split
       ·rename_i hh
        simp only [Bool.and_eq_true] at hh; exact sim_bind (name_sim S u u' h5 (hu (.inr (.inr (.inr (.inl hh.2)))))) fun s r1 r1' h e => ⟨rfl, h, e⟩
       ·split
        ·rename_i hh
         exact sim_bind (any_sim hf _ _ _ S u u' h5 (hu (.inr (.inr (.inr (.inr (.inl hh))))))) fun s r1 r1' h e => ⟨rfl, h, e⟩
        ·split
         ·rename_i hh
          exact sim_bind (any_sim (pair_sim hf) _ _ _ S u u' h5 (hu (.inr (.inr (.inr (.inr (.inr hh))))))) fun s r1 r1' h e => ⟨rfl, h, e⟩
         ·exact ⟨rfl, h4⟩
theorem value_sim (fixed : Bool) : ∀ d, Sim (valueP fixed d)
 | 0 => fun S r r' h e => ⟨rfl, relT_at h e⟩
 | d + 1 => valueB_sim fixed (value_sim fixed d)
theorem bang_sim (mk : Bool → TR) : Sim (bangP mk) := fun S r r' h e => by
 unfold bangP; exact sim_if (relT_isT h e _) (fun hs => by obtain ⟨h1, h2⟩ := relT_tail h e (isT_k0 hs); exact ⟨rfl, h1, h2⟩) (fun _ => ⟨rfl, h, e⟩)
theorem typ_sim : ∀ d, Sim (typP d)
 | 0 => fun S r r' h e => ⟨rfl, relT_at h e⟩
 | d + 1 => fun S r r' h e => by
  rw [typP, typP]; refine sim_if (relT_isT h e _) (fun hs => ?_) (fun _ => ?_)
  ·obtain ⟨h1, h2⟩ := relT_tail h e (isT_k0 hs); exact sim_bind (typ_sim d S _ _ h1 h2) fun t r1 r1' h e => sim_bind (want_sim _ S _ _ h e) fun _ r2 r2' h e => bang_sim _ S _ _ h e
  ·exact sim_bind (name_sim S _ _ h e) fun s r1 r1' h e => bang_sim _ S _ _ h e
theorem arg_sim (d : Nat) : Sim (argP d) := fun S r r' h e => sim_bind (name_sim S _ _ h e) fun s r1 r1' h e => sim_bind (want_sim _ S _ _ h e) fun _ r2 r2' h e => sim_bind (value_sim _ _ S _ _ h e) fun v r3 r3' h e => ⟨rfl, h, e⟩
theorem args_sim (d : Nat) : Sim (argsP d) := fun S r r' h e => by
 unfold argsP; rw [h.len]; refine sim_if (relT_isS h e _) (fun hs => ?_) (fun _ => ⟨rfl, h, e⟩)
 obtain ⟨h1, h2⟩ := relT_tail h e (isS_k0 hs); exact many_sim (arg_sim d) _ _ _ S _ _ h1 h2
theorem dir_sim (d : Nat) : Sim (dirP d) := fun S r r' h e => sim_bind (name_sim S _ _ h e) fun s r1 r1' h e => sim_bind (args_sim d S _ _ h e) fun v r3 r3' h e => ⟨rfl, h, e⟩
theorem dirs_sim (d : Nat) : ∀ (n : Nat) (acc : List DR), Sim (dirsP d n acc)
 | 0, acc => fun S r r' h e => ⟨rfl, relT_at h e⟩
 | n + 1, acc => fun S r r' h e => by
  rw [dirsP, dirsP]; refine sim_if (relT_isT h e _) (fun hs => ?_) (fun _ => ⟨rfl, h, e⟩)
  obtain ⟨h1, h2⟩ := relT_tail h e (isT_k0 hs); exact sim_bind (dir_sim d S _ _ h1 h2) fun x r1 r1' h e => dirs_sim d n _ S _ _ h e
theorem sel_sim (d : Nat) {g : List Tok → PR (List SL)} (hg : Sim g) : Sim (selP d g) := fun S r r' h e => by
 unfold selP; refine sim_if (relT_isT h e _) (fun hs => ?_) (fun _ => ?_)
 ·obtain ⟨h, e⟩ := relT_tail h e (isT_k0 hs); refine sim_if (relT_isT h e _) (fun hs => ?_) (fun _ => sim_if (relT_isK h e _) (fun hk => ?_) (fun _ => ?_))
  ·obtain ⟨h, e⟩ := relT_tail h e (isT_k0 hs); exact sim_bind (name_sim S _ _ h e) fun s r1 r1' h e => by rw [h.len]; exact sim_bind (dirs_sim d _ _ S _ _ h e) fun ds r2 r2' h e => sim_bind (hg S _ _ h e) fun sub r3 r3' h e => ⟨rfl, h, e⟩
  ·exact sim_bind (name_sim S _ _ h e) fun s r1 r1' h e => by rw [h.len]; exact sim_bind (dirs_sim d _ _ S _ _ h e) fun ds r2 r2' h e => ⟨rfl, h, e⟩
  ·rw [h.len]; exact sim_bind (dirs_sim d _ _ S _ _ h e) fun ds r2 r2' h e => sim_bind (hg S _ _ h e) fun sub r3 r3' h e => ⟨rfl, h, e⟩
 ·refine sim_bind (name_sim S _ _ h e) fun s r1 r1' h e => sim_bind (sim_if (relT_isT h e _) (fun hs => ?_) (fun _ => ⟨rfl, h, e⟩)) fun p r2 r2' h e => sim_bind (args_sim d S _ _ h e) fun gs r3 r3' h e => ?_
  ·obtain ⟨h, e⟩ := relT_tail h e (isT_k0 hs); exact sim_bind (name_sim S _ _ h e) fun s r1 r1' h e => ⟨rfl, h, e⟩
  ·rw [h.len]; exact sim_bind (dirs_sim d _ _ S _ _ h e) fun ds r4 r4' h e => sim_bind (sim_if (relT_isS h e _) (fun _ => hg S _ _ h e) (fun _ => ⟨rfl, h, e⟩)) fun sub r5 r5' h e => ⟨rfl, h, e⟩
theorem set_sim : ∀ d, Sim (setP d)
 | 0 => fun S r r' h e => ⟨rfl, relT_at h e⟩
 | d + 1 => fun S r r' h e => by
  rw [setP, setP]; exact sim_bind (want_sim _ S _ _ h e) fun _ r1 r1' h e => by rw [h.len]; exact many_sim (sel_sim d (set_sim d)) _ _ _ S _ _ h e
theorem var_sim : Sim varP := fun S r r' h e => by
 unfold varP; refine sim_bind (want_sim _ S _ _ h e) fun _ r1 r1' h e => sim_bind (name_sim S _ _ h e) fun s r2 r2' h e => sim_bind (want_sim _ S _ _ h e) fun _ r3 r3' h e => sim_bind (typ_sim _ S _ _ h e) fun t r4 r4' h e => sim_if (relT_isT h e _) (fun hs => ?_) (fun _ => ⟨rfl, h, e⟩)
 obtain ⟨h, e⟩ := relT_tail h e (isT_k0 hs); exact sim_bind (value_sim _ _ S _ _ h e) fun v r5 r5' h e => ⟨rfl, h, e⟩
theorem op_sim : Sim opP := fun S r r' h e => by
 unfold opP; refine sim_bind (sim_if (relT_isT h e _) (fun hs => ?_) (fun _ => ?_)) fun m r1 r1' h e => sim_bind (sim_if (relT_isK h e _) (fun _ => name_sim S _ _ h e) (fun _ => ⟨rfl, h, e⟩)) fun s r2 r2' h e => sim_bind (?_) fun vs r3 r3' h e => sim_bind (set_sim _ S _ _ h e) fun sub r4 r4' h e => ⟨rfl, h, e⟩
 ·obtain ⟨h, e⟩ := relT_tail h e (isT_k0 hs); exact ⟨rfl, h, e⟩
 ·exact sim_bind (want_sim _ S _ _ h e) fun _ r1 r1' h e => ⟨rfl, h, e⟩
 ·rw [h.len]; refine sim_if (relT_isS h e _) (fun hs => ?_) (fun _ => ⟨rfl, h, e⟩)
  obtain ⟨h, e⟩ := relT_tail h e (isS_k0 hs); exact many_sim var_sim _ _ _ S _ _ h e
theorem frag_sim : Sim fragP := fun S r r' h e => by
 unfold fragP; exact sim_if (relT_isW h e _) (fun _ => ⟨rfl, relT_at h e⟩) (fun _ => sim_bind (name_sim S _ _ h e) fun s r1 r1' h e => sim_bind (want_sim _ S _ _ h e) fun _ r2 r2' h e => sim_bind (name_sim S _ _ h e) fun o r3 r3' h e => sim_bind (set_sim _ S _ _ h e) fun sub r4 r4' h e => ⟨rfl, h, e⟩)
theorem def_sim (d : DC) : Sim (defP d) := fun S r r' h e => by
 unfold defP; refine sim_if (relT_isS h e _) (fun _ => ?_) (fun _ => sim_if (relT_isT h e _) (fun hs => ?_) (fun _ => ?_))
 ·exact sim_bind (set_sim _ S _ _ h e) fun sub r1 r1' h e => ⟨rfl, h, e⟩
 ·obtain ⟨h, e⟩ := relT_tail h e (isT_k0 hs); exact sim_bind (frag_sim S _ _ h e) fun f r1 r1' h e => ⟨rfl, h, e⟩
 ·exact sim_bind (op_sim S _ _ h e) fun f r1 r1' h e => ⟨rfl, h, e⟩
theorem doc_sim : ∀ (n : Nat) (d : DC), Sim (docF n d)
 | 0, d => fun S r r' h e => ⟨rfl, relT_at h e⟩
 | n + 1, d => fun S r r' h e => by
  rw [docF, docF]; exact sim_bind (def_sim d S _ _ h e) fun d1 r1 r1' h e => sim_if (relT_isK h e _) (fun _ => ⟨rfl, h, e⟩) (fun _ => doc_sim n d1 S _ _ h e)
def JnP {α : Type} (E : Tok) (tl pre : List Tok) (p p' : PR α) : Prop := match p with
 | .bad _ _ => True
 | .ok x r1 => ∃ u, u <:+ pre ∧ r1 = u ++ [E] ∧ (u ≠ [] → p' = .ok x (u ++ tl))
def JcP {α : Type} (E : Tok) (tl pre : List Tok) (p p' : PR α) : Prop := match p with
 | .bad _ _ => True
 | .ok x r1 => ∃ u, u <:+ pre ∧ u.length < pre.length ∧ r1 = u ++ [E] ∧ p' = .ok x (u ++ tl)
variable {E : Tok} {tl : List Tok}
theorem JcP.jn {α : Type} {pre : List Tok} {p p' : PR α} (h : JcP E tl pre p p') : JnP E tl pre p p' := by
 cases p with
 | bad a e => trivial
 | ok x r => obtain ⟨u, h1, h2, h3, h4⟩ := h; exact ⟨u, h1, h3, fun _ => h4⟩
theorem JnP.ok {α : Type} (x : α) (pre : List Tok) : JnP E tl pre (.ok x (pre ++ [E])) (.ok x (pre ++ tl)) := ⟨pre, List.suffix_refl _, rfl, fun _ => rfl⟩
theorem JcP.ok {α : Type} (x : α) (a : Tok) (pre : List Tok) : JcP E tl (a :: pre) (.ok x (pre ++ [E])) (.ok x (pre ++ tl)) := ⟨pre, List.suffix_cons _ _, by simp, rfl, rfl⟩
def DC.app (d m : DC) : DC := ⟨d.ops ++ m.ops, d.frags ++ m.frags⟩
def PR.map {α β : Type} (h : α → β) : PR α → PR β
 | .ok x r => .ok (h x) r
 | .bad a e => .bad a e
def CutP {α : Type} (t E : Tok) (post : List Tok) (p p' : PR α) : Prop := match p with
 | .bad _ _ => True
 | .ok x r1 => (∃ u, r1 = u ++ t :: post ∧ p' = .ok x (u ++ [E])) ∨ (r1.length ≤ post.length ∧ p' = .bad E.at_ 4)
variable {t E : Tok} {post : List Tok}
theorem CutP.ok {α : Type} (x : α) (u : List Tok) : CutP t E post (.ok x (u ++ t :: post)) (.ok x (u ++ [E])) := .inl ⟨u, rfl, rfl⟩
theorem CutP.out {α : Type} {p p' : PR α} (h : ∀ x r, p ≠ .ok x r) : CutP t E post p p' := by
 cases p with
 | ok x r => exact absurd rfl (h x r)
 | bad a e => trivial
def DR1.up (n : Nat) (d : DC) : DR1 → DR1
 | .ok m => .ok (d.app m)
 | .bad a e => .bad (a + n) e
theorem DC.app_nil (d : DC) : d.app ⟨[], []⟩ = d := by cases d; simp [DC.app]
end Go.Proofs.YtnkpoddbbdmipaaGreatDoor
