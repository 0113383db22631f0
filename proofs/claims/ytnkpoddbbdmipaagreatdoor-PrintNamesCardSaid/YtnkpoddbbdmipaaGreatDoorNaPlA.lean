/- What is printed, in plain Lean: its tokens are read as what was printed (documents). Tokens, in plain Lean: the end is last; a fault's number. Documents, in plain Lean: places change nothing but places. Documents, in plain Lean: fuel; what is read takes tokens (the rest). Documents, in plain Lean: other tokens in the place of the end. Documents, in plain Lean: tokens that end ahead of a closing sign. Tokens, in plain Lean: a closing sign parts a text; the end alone is of kind 0. The laws of documents that are cut short, and that are joined. Documents, in plain Lean: two texts, one behind the other. -/
import Derived.Test.YtnkpoddbbdmipaaGreatDoorNaPnv
import Derived.Test.YtnkpoddbbdmipaaGreatDoorNaPrA
import Derived.Test.YtnkpoddbbdmipaaGreatDoorNaPrB
import Derived.Test.YtnkpoddbbdmipaaGreatDoorNaSdP
namespace Go.Proofs.YtnkpoddbbdmipaaGreatDoor
set_option linter.unusedVariables false
set_option linter.unusedSimpArgs false

abbrev nmT (s : List UInt8) : Tok := ⟨1, s, 0, 0⟩
theorem isT_nm (s t : List UInt8) (r : List Tok) : isT s (nmT t :: r) = decide (t = s) := by simp [isT, isS, isW]
theorem isS_nm (s t : List UInt8) (r : List Tok) : isS s (nmT t :: r) = false := by simp [isS]
theorem nm_no {s : List UInt8} (h : NameOk s) (c : UInt8) (l : List UInt8) (r : List Tok) (hc : letB c = false) : isT (c :: l) (nmT s :: r) = false := by
 rw [isT_nm, decide_eq_false (name_sign h hc)]
/-! ### Values, types -/
theorem vB_cons (fixed : Bool) (f : List Tok → PR VT) (t : Tok) (r : List Tok) : valueB fixed f (t :: r) =
  if t.kind = 2 then .ok (.mk 1 t.n [] [] []) r
  else if t.kind = 3 then .ok (.mk 2 0 t.text [] []) r
  else if isT wTrue (t :: r) then .ok (.mk 3 1 [] [] []) r
  else if isT wFalse (t :: r) then .ok (.mk 3 0 [] [] []) r
  else if isT wNull (t :: r) then .ok VT.zero r
  else if t.kind = 1 then .ok (.mk 4 0 t.text [] []) r
  else if !fixed && isT [36] (t :: r) then (nameP r).bind fun s r1 => .ok (.mk 7 0 s [] []) r1
  else if isT [91] (t :: r) then (anyP f [93] (r.length + 1) [] r).bind fun vs r1 => .ok (.mk 5 0 [] [] vs) r1
  else if isT [123] (t :: r) then (anyP (pairP f) [125] (r.length + 1) [] r).bind fun ps r1 => .ok (.mk 6 0 [] (ps.map (·.1)) (ps.map (·.2))) r1
  else .bad t.at_ 4 := rfl
/-! ### Arguments, directives, selections -/
/-- What may follow a selection. -/
structure StpS (q : List Tok) : Prop where
 c58 : isT [58] q = false
 c40 : isS [40] q = false
 c64 : isT [64] q = false
 c123 : isS [123] q = false
theorem StpS.nm {s : List UInt8} (h : NameOk s) (q : List Tok) : StpS (nmT s :: q) := ⟨nm_no h _ _ _ (by decide), isS_nm _ _ _, nm_no h _ _ _ (by decide), isS_nm _ _ _⟩
/-! ### Definitions -/
/-- What may follow a type, or what something is else. -/
structure StpI (q : List Tok) : Prop where
 c33 : isT [33] q = false
 c61 : isT [61] q = false
theorem StpI.nm {s : List UInt8} (h : NameOk s) (q : List Tok) : StpI (nmT s :: q) := ⟨nm_no h _ _ _ (by decide), nm_no h _ _ _ (by decide)⟩
end Go.Proofs.YtnkpoddbbdmipaaGreatDoor
namespace Go.Proofs.YtnkpoddbbdmipaaGreatDoor
set_option linter.unusedVariables false
set_option linter.unusedSimpArgs false

/-- Some tokens, the end last. -/
def EndR : List Tok → Prop
 | [] => False
 | [t] => t.kind = 0
 | _ :: t :: r => EndR (t :: r)
theorem EndR.tail {t : Tok} {r : List Tok} (h : EndR (t :: r)) (hk : t.kind ≠ 0) : EndR r := by
 cases r with
 | nil => exact absurd h hk
 | cons u r => exact h
theorem numP_bad {l : List UInt8} {o e : Nat} (h : numP l = .bad o e) : e ≠ 0 := by
 unfold numP at h
 simp only at h
 repeat' split at h
 all_goals first
  | (injection h with _ h; omega)
  | cases h
theorem txtP_bad : ∀ (m : Nat) (l acc : List UInt8) (k : Nat) {o e : Nat}, l.length ≤ m → txtP acc k l = .bad o e → e ≠ 0
 | _, [], acc, k, o, e, _, h => by
  rw [txtP.eq_def] at h; injection h with _ h; omega
 | 0, c :: l, acc, k, o, e, hl, h => by simp at hl
 | m + 1, c :: l, acc, k, o, e, hl, h => by
  simp only [List.length_cons] at hl
  rw [txtP.eq_def] at h
  simp only at h
  split at h
  ·split at h
   ·injection h with _ h; omega
   ·cases h
  ·split at h
   ·injection h with _ h; omega
   ·split at h
    ·cases l with
     | nil => injection h with _ h; omega
     | cons d l' =>
      simp only [List.length_cons] at hl
      simp only at h
      split at h
      ·exact txtP_bad m l' _ _ (by omega) h
      ·split at h
       ·exact txtP_bad m l' _ _ (by omega) h
       ·split at h
        ·exact txtP_bad m l' _ _ (by omega) h
        ·injection h with _ h; omega
    ·exact txtP_bad m l _ _ (by omega) h
theorem oneP_bad {l : List UInt8} {o e : Nat} (h : oneP l = .bad o e) : e ≠ 0 := by
 cases l with
 | nil => injection h with _ h; omega
 | cons c l =>
  rw [oneP_cons] at h
  split at h
  ·split at h
   ·injection h with _ h; omega
   ·cases h
  ·split at h
   ·exact numP_bad h
   ·split at h
    ·exact txtP_bad _ l _ _ (Nat.le_refl _) h
    ·split at h
     ·cases h
     ·split at h
      ·cases h
      ·injection h with _ h; omega
theorem toksF_bad : ∀ (f a : Nat) (l : List UInt8) {x e : Nat}, toksF f a l = .bad x e → e ≠ 0
 | 0, a, l, x, e, h => by injection h with _ h; omega
 | f + 1, a, [], x, e, h => by cases h
 | f + 1, a, c :: l, x, e, h => by
  unfold toksF at h
  split at h
  ·exact toksF_bad f _ _ h
  ·split at h
   ·exact toksF_bad f _ _ h
   ·split at h
    ·rename_i hq; injection h with _ h; subst h; exact oneP_bad hq
    ·exact toksF_bad f _ _ (Out.cons_bad h)
theorem toks_bad {s : List UInt8} {x e : Nat} (h : toks s = .bad x e) : e ≠ 0 := by
 unfold toks at h
 split at h
 ·injection h with _ h; omega
 ·exact toksF_bad _ _ _ h
theorem toksF_end : ∀ (f a : Nat) (l : List UInt8) {ts : List Tok}, toksF f a l = .ok ts → EndR ts ∧ ts.length ≤ l.length + 1
 | 0, a, l, ts, h => by cases h
 | f + 1, a, [], ts, h => by injection h with h; subst h; exact ⟨rfl, by simp⟩
 | f + 1, a, c :: l, ts, h => by
  unfold toksF at h
  split at h
  ·have := toksF_end f _ _ h; exact ⟨this.1, by simp only [List.length_cons]; omega⟩
  ·split at h
   ·have := toksF_end f _ _ h; exact ⟨this.1, by rw [List.length_drop] at this; simp only [List.length_cons]; omega⟩
   ·split at h
    ·cases h
    ·rename_i k t n len hq
     obtain ⟨us, h1, rfl⟩ := Out.cons_ok h
     have := toksF_end f _ _ h1
     have hl := oneP_len hq
     refine ⟨?_, ?_⟩
     ·cases us with
      | nil => exact this.1.elim
      | cons u us => exact this.1
     ·rw [List.length_drop] at this; simp only [List.length_cons] at this hl ⊢; omega
theorem toks_end {s : List UInt8} {ts : List Tok} (h : toks s = .ok ts) : EndR ts ∧ ts.length ≤ 2001 := by
 obtain ⟨h1, h2⟩ := toks_ok h
 have := toksF_end _ _ _ h2
 exact ⟨this.1, by omega⟩
end Go.Proofs.YtnkpoddbbdmipaaGreatDoor
namespace Go.Proofs.YtnkpoddbbdmipaaGreatDoor
set_option linter.unusedVariables false
set_option linter.unusedSimpArgs false

/-- The same tokens, at places that S relates. -/
def RelT (S : Nat → Nat → Prop) : List Tok → List Tok → Prop
 | [], [] => True
 | t :: r, t' :: r' => (t.kind = t'.kind ∧ t.text = t'.text ∧ t.n = t'.n ∧ S t.at_ t'.at_) ∧ RelT S r r'
 | _, _ => False
theorem RelT.len {S : Nat → Nat → Prop} : ∀ {r r' : List Tok}, RelT S r r' → r.length = r'.length
 | [], [], _ => rfl
 | _ :: r, _ :: r', h => by have := RelT.len h.2; simp only [List.length_cons]; omega
 | [], _ :: _, h => h.elim
 | _ :: _, [], h => h.elim
theorem EndR.ne {r : List Tok} (h : EndR r) : ∃ t u, r = t :: u := by
 cases r with
 | nil => exact h.elim
 | cons t u => exact ⟨t, u, rfl⟩
theorem RelT.cons {S : Nat → Nat → Prop} {r r' : List Tok} (h : RelT S r r') (he : EndR r) : ∃ t u t' u', r = t :: u ∧ r' = t' :: u' ∧ t.kind = t'.kind ∧ t.text = t'.text ∧ t.n = t'.n ∧ S t.at_ t'.at_ ∧ RelT S u u' := by
 obtain ⟨t, u, rfl⟩ := he.ne
 cases r' with
 | nil => exact h.elim
 | cons t' u' => exact ⟨t, u, t', u', rfl, rfl, h.1.1, h.1.2.1, h.1.2.2.1, h.1.2.2.2, h.2⟩
end Go.Proofs.YtnkpoddbbdmipaaGreatDoor
namespace Go.Proofs.YtnkpoddbbdmipaaGreatDoor
set_option linter.unusedVariables false
set_option linter.unusedSimpArgs false

/-! ### Fuel beyond the tokens changes nothing -/
end Go.Proofs.YtnkpoddbbdmipaaGreatDoor
namespace Go.Proofs.YtnkpoddbbdmipaaGreatDoor
set_option linter.unusedVariables false
set_option linter.unusedSimpArgs false

/-- pre's tokens, and then the end; or, in its place, tl. Where a token of pre is left, both go on alike. -/
def JnP {α : Type} (E : Tok) (tl pre : List Tok) (p p' : PR α) : Prop := match p with
 | .bad _ _ => True
 | .ok x r1 => ∃ u, u <:+ pre ∧ r1 = u ++ [E] ∧ (u ≠ [] → p' = .ok x (u ++ tl))
/-- The same where nothing is looked at behind the last token that is taken. -/
def JcP {α : Type} (E : Tok) (tl pre : List Tok) (p p' : PR α) : Prop := match p with
 | .bad _ _ => True
 | .ok x r1 => ∃ u, u <:+ pre ∧ u.length < pre.length ∧ r1 = u ++ [E] ∧ p' = .ok x (u ++ tl)
variable {E : Tok} {tl : List Tok}
theorem JcP.jn {α : Type} {pre : List Tok} {p p' : PR α} (h : JcP E tl pre p p') : JnP E tl pre p p' := by
 cases p with
 | bad a e => trivial
 | ok x r => obtain ⟨u, h1, h2, h3, h4⟩ := h; exact ⟨u, h1, h3, fun _ => h4⟩
theorem JnP.ok {α : Type} (x : α) (pre : List Tok) : JnP E tl pre (.ok x (pre ++ [E])) (.ok x (pre ++ tl)) := ⟨pre, List.suffix_refl _, rfl, fun _ => rfl⟩
theorem JcP.ok {α : Type} (x : α) (a : Tok) (pre : List Tok) : JcP E tl (a :: pre) (.ok x (pre ++ [E])) (.ok x (pre ++ tl)) := ⟨pre, List.suffix_cons _ _, by simp, rfl, rfl⟩
/-- One more definition behind others: the same, with them ahead. -/
def DC.app (d m : DC) : DC := ⟨d.ops ++ m.ops, d.frags ++ m.frags⟩
def PR.map {α β : Type} (h : α → β) : PR α → PR β
 | .ok x r => .ok (h x) r
 | .bad a e => .bad a e
end Go.Proofs.YtnkpoddbbdmipaaGreatDoor
namespace Go.Proofs.YtnkpoddbbdmipaaGreatDoor
set_option linter.unusedVariables false
set_option linter.unusedSimpArgs false

/-! ### The tokens end ahead of a closing sign -/
def CutP {α : Type} (t E : Tok) (post : List Tok) (p p' : PR α) : Prop := match p with
 | .bad _ _ => True
 | .ok x r1 => (∃ u, r1 = u ++ t :: post ∧ p' = .ok x (u ++ [E])) ∨ (r1.length ≤ post.length ∧ p' = .bad E.at_ 4)
variable {t E : Tok} {post : List Tok}
theorem CutP.ok {α : Type} (x : α) (u : List Tok) : CutP t E post (.ok x (u ++ t :: post)) (.ok x (u ++ [E])) := .inl ⟨u, rfl, rfl⟩
theorem CutP.out {α : Type} {p p' : PR α} (h : ∀ x r, p ≠ .ok x r) : CutP t E post p p' := by
 cases p with
 | ok x r => exact absurd rfl (h x r)
 | bad a e => trivial
end Go.Proofs.YtnkpoddbbdmipaaGreatDoor
namespace Go.Proofs.YtnkpoddbbdmipaaGreatDoor
set_option linter.unusedVariables false
set_option linter.unusedSimpArgs false

end Go.Proofs.YtnkpoddbbdmipaaGreatDoor
namespace Go.Proofs.YtnkpoddbbdmipaaGreatDoor
set_option linter.unusedVariables false
set_option linter.unusedSimpArgs false

def DR1.up (n : Nat) (d : DC) : DR1 → DR1
 | .ok m => .ok (d.app m)
 | .bad a e => .bad (a + n) e
theorem DC.app_nil (d : DC) : d.app ⟨[], []⟩ = d := by cases d; simp [DC.app]
end Go.Proofs.YtnkpoddbbdmipaaGreatDoor
