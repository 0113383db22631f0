/- Documents, in plain Lean: a fault has a number. -/
import Derived.Test.YtgephneppgcnlaaDoorPrl
namespace Go.Proofs.YtgephneppgcnlaaDoor
set_option linter.unusedVariables false
set_option linter.unusedSimpArgs false

def NZ {α : Type} : PR α → Prop
  | .ok _ _ => True
  | .bad _ e => e ≠ 0
theorem nz_bind {α β : Type} {p : PR α} {f : α → List Tok → PR β} (h : NZ p) (hf : ∀ x r, NZ (f x r)) : NZ (p.bind f) := by
  cases p with
  | ok x r => exact hf x r
  | bad a e => exact h
theorem nz_if {α : Type} {c : Prop} [Decidable c] {p q : PR α} (h1 : NZ p) (h2 : NZ q) : NZ (if c then p else q) := by
  split
  · exact h1
  · exact h2
theorem nz_ok {α : Type} (x : α) (r : List Tok) : NZ (PR.ok x r) := trivial
theorem nz_want (s : List UInt8) (r : List Tok) : NZ (wantP s r) := by unfold wantP; exact nz_if trivial (by show (4 : Nat) ≠ 0; decide)
theorem nz_name (r : List Tok) : NZ (nameP r) := by
  cases r with
  | nil => show (4 : Nat) ≠ 0; decide
  | cons t r => show NZ (if t.kind = 1 then .ok t.text r else .bad t.at_ 4); exact nz_if trivial (by show (4 : Nat) ≠ 0; decide)
theorem nz_many {α : Type} {f : List Tok → PR α} (hf : ∀ r, NZ (f r)) (c : List UInt8) : ∀ (n : Nat) (acc : List α) (r : List Tok), NZ (manyP f c n acc r)
  | 0, _, _ => by show (4 : Nat) ≠ 0; decide
  | n + 1, acc, r => by rw [manyP]; exact nz_bind (hf r) fun x r1 => nz_if trivial (nz_many hf c n _ _)
theorem nz_any {α : Type} {f : List Tok → PR α} (hf : ∀ r, NZ (f r)) (c : List UInt8) : ∀ (n : Nat) (acc : List α) (r : List Tok), NZ (anyP f c n acc r)
  | 0, _, _ => by show (4 : Nat) ≠ 0; decide
  | n + 1, acc, r => by rw [anyP]; exact nz_if trivial (nz_bind (hf r) fun x r1 => nz_any hf c n _ _)
theorem nz_pair {f : List Tok → PR VT} (hf : ∀ r, NZ (f r)) (r : List Tok) : NZ (pairP f r) := nz_bind (nz_name _) fun _ _ => nz_bind (nz_want _ _) fun _ _ => nz_bind (hf _) fun _ _ => trivial
theorem nz_valueB (fixed : Bool) {f : List Tok → PR VT} (hf : ∀ r, NZ (f r)) (r : List Tok) : NZ (valueB fixed f r) := by
  cases r with
  | nil => show (4 : Nat) ≠ 0; decide
  | cons t r =>
    show NZ (if t.kind = 2 then .ok (.mk 1 t.n [] [] []) r
      else if t.kind = 3 then .ok (.mk 2 0 t.text [] []) r
      else if isT wTrue (t :: r) then .ok (.mk 3 1 [] [] []) r
      else if isT wFalse (t :: r) then .ok (.mk 3 0 [] [] []) r
      else if isT wNull (t :: r) then .ok VT.zero r
      else if t.kind = 1 then .ok (.mk 4 0 t.text [] []) r
      else if !fixed && isT [36] (t :: r) then (nameP r).bind fun s r1 => .ok (.mk 7 0 s [] []) r1
      else if isT [91] (t :: r) then (anyP f [93] (r.length + 1) [] r).bind fun vs r1 => .ok (.mk 5 0 [] [] vs) r1
      else if isT [123] (t :: r) then (anyP (pairP f) [125] (r.length + 1) [] r).bind fun ps r1 => .ok (.mk 6 0 [] (ps.map (·.1)) (ps.map (·.2))) r1
      else .bad t.at_ 4)
    exact nz_if trivial (nz_if trivial (nz_if trivial (nz_if trivial (nz_if trivial (nz_if trivial (nz_if (nz_bind (nz_name _) fun _ _ => trivial) (nz_if (nz_bind (nz_any hf _ _ _ _) fun _ _ => trivial) (nz_if (nz_bind (nz_any (nz_pair hf) _ _ _ _) fun _ _ => trivial) (by show (4 : Nat) ≠ 0; decide)))))))))
theorem nz_value (fixed : Bool) : ∀ (d : Nat) (r : List Tok), NZ (valueP fixed d r)
  | 0, r => by show (5 : Nat) ≠ 0; decide
  | d + 1, r => nz_valueB fixed (nz_value fixed d) r
theorem nz_bang (mk : Bool → TR) (r : List Tok) : NZ (bangP mk r) := by unfold bangP; exact nz_if trivial trivial
theorem nz_typ : ∀ (d : Nat) (r : List Tok), NZ (typP d r)
  | 0, r => by show (5 : Nat) ≠ 0; decide
  | d + 1, r => by rw [typP]; exact nz_if (nz_bind (nz_typ d _) fun _ _ => nz_bind (nz_want _ _) fun _ _ => nz_bang _ _) (nz_bind (nz_name _) fun _ _ => nz_bang _ _)
theorem nz_arg (d : Nat) (r : List Tok) : NZ (argP d r) := nz_bind (nz_name _) fun _ _ => nz_bind (nz_want _ _) fun _ _ => nz_bind (nz_value _ _ _) fun _ _ => trivial
theorem nz_args (d : Nat) (r : List Tok) : NZ (argsP d r) := by unfold argsP; exact nz_if (nz_many (nz_arg d) _ _ _ _) trivial
theorem nz_dir (d : Nat) (r : List Tok) : NZ (dirP d r) := nz_bind (nz_name _) fun _ _ => nz_bind (nz_args _ _) fun _ _ => trivial
theorem nz_dirs (d : Nat) : ∀ (n : Nat) (acc : List DR) (r : List Tok), NZ (dirsP d n acc r)
  | 0, _, _ => by show (4 : Nat) ≠ 0; decide
  | n + 1, acc, r => by rw [dirsP]; exact nz_if (nz_bind (nz_dir d _) fun _ _ => nz_dirs d n _ _) trivial
theorem nz_sel (d : Nat) {g : List Tok → PR (List SL)} (hg : ∀ r, NZ (g r)) (r : List Tok) : NZ (selP d g r) := by
  unfold selP
  exact nz_if (nz_if (nz_bind (nz_name _) fun _ _ => nz_bind (nz_dirs _ _ _ _) fun _ _ => nz_bind (hg _) fun _ _ => trivial) (nz_if (nz_bind (nz_name _) fun _ _ => nz_bind (nz_dirs _ _ _ _) fun _ _ => trivial) (nz_bind (nz_dirs _ _ _ _) fun _ _ => nz_bind (hg _) fun _ _ => trivial)))
    (nz_bind (nz_name _) fun _ _ => nz_bind (nz_if (nz_bind (nz_name _) fun _ _ => trivial) trivial) fun _ _ => nz_bind (nz_args _ _) fun _ _ => nz_bind (nz_dirs _ _ _ _) fun _ _ => nz_bind (nz_if (hg _) trivial) fun _ _ => trivial)
theorem nz_set : ∀ (d : Nat) (r : List Tok), NZ (setP d r)
  | 0, r => by show (5 : Nat) ≠ 0; decide
  | d + 1, r => by rw [setP]; exact nz_bind (nz_want _ _) fun _ _ => nz_many (nz_sel d (nz_set d)) _ _ _ _
theorem nz_var (r : List Tok) : NZ (varP r) := by
  unfold varP
  exact nz_bind (nz_want _ _) fun _ _ => nz_bind (nz_name _) fun _ _ => nz_bind (nz_want _ _) fun _ _ => nz_bind (nz_typ _ _) fun _ _ => nz_if (nz_bind (nz_value _ _ _) fun _ _ => trivial) trivial
theorem nz_op (r : List Tok) : NZ (opP r) := by
  unfold opP
  exact nz_bind (nz_if trivial (nz_bind (nz_want _ _) fun _ _ => trivial)) fun _ _ => nz_bind (nz_if (nz_name _) trivial) fun _ _ => nz_bind (nz_if (nz_many nz_var _ _ _ _) trivial) fun _ _ => nz_bind (nz_set _ _) fun _ _ => trivial
theorem nz_frag (r : List Tok) : NZ (fragP r) := by
  unfold fragP
  exact nz_if (by show (4 : Nat) ≠ 0; decide) (nz_bind (nz_name _) fun _ _ => nz_bind (nz_want _ _) fun _ _ => nz_bind (nz_name _) fun _ _ => nz_bind (nz_set _ _) fun _ _ => trivial)
theorem nz_def (d : DC) (r : List Tok) : NZ (defP d r) := by
  unfold defP
  exact nz_if (nz_bind (nz_set _ _) fun _ _ => trivial) (nz_if (nz_bind (nz_frag _) fun _ _ => trivial) (nz_bind (nz_op _) fun _ _ => trivial))
theorem nz_doc : ∀ (n : Nat) (d : DC) (r : List Tok), NZ (docF n d r)
  | 0, _, _ => by show (4 : Nat) ≠ 0; decide
  | n + 1, d, r => by rw [docF]; exact nz_bind (nz_def d r) fun _ _ => nz_if trivial (nz_doc n _ _)
theorem docF_bad {n : Nat} {d : DC} {r : List Tok} {a e : Nat} (h : docF n d r = .bad a e) : e ≠ 0 := by
  have := nz_doc n d r
  rw [h] at this; exact this
end Go.Proofs.YtgephneppgcnlaaDoor
