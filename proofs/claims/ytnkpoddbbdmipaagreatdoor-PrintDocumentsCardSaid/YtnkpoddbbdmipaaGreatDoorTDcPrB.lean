/- . -/
import Derived.Test.YtnkpoddbbdmipaaGreatDoorTDcSdP
namespace Go.Proofs.YtnkpoddbbdmipaaGreatDoor
set_option linter.unusedVariables false
set_option linter.unusedSimpArgs false
def wOn : List UInt8 := [111, 110]
def wMutation : List UInt8 := [109, 117, 116, 97, 116, 105, 111, 110]
def wQuery : List UInt8 := [113, 117, 101, 114, 121]
def wFragment : List UInt8 := [102, 114, 97, 103, 109, 101, 110, 116]
def wDots : List UInt8 := [46, 46, 46]
def argP (d : Nat) (r : List Tok) : PR AR := (nameP r).bind fun s r1 => (wantP [58] r1).bind fun _ r2 => (valueP false d r2).bind fun v r3 => .ok ⟨s, v⟩ r3
def argsP (d : Nat) (r : List Tok) : PR (List AR) := if isS [40] r then manyP (argP d) [41] (r.length + 1) [] r.tail else .ok [] r
def dirP (d : Nat) (r : List Tok) : PR DR := (nameP r).bind fun s r1 => (argsP d r1).bind fun l r2 => .ok ⟨s, l⟩ r2
def dirsP (d : Nat) : Nat → List DR → List Tok → PR (List DR)
 | 0, _, r => .bad (atT r) 4
 | n + 1, acc, r => if isT [64] r then (dirP d r.tail).bind fun x r1 => dirsP d n (acc ++ [x]) r1 else .ok acc r
def selP (d : Nat) (g : List Tok → PR (List SL)) (r : List Tok) : PR SL :=
 if isT wDots r then
  if isT wOn r.tail then (nameP r.tail.tail).bind fun s r1 => (dirsP d (r1.length + 1) [] r1).bind fun ds r2 => (g r2).bind fun sub r3 => .ok (.mk 3 [] [] s [] ds sub) r3
  else if isK 1 r.tail then (nameP r.tail).bind fun s r1 => (dirsP d (r1.length + 1) [] r1).bind fun ds r2 => .ok (.mk 2 [] s [] [] ds []) r2
  else (dirsP d (r.tail.length + 1) [] r.tail).bind fun ds r2 => (g r2).bind fun sub r3 => .ok (.mk 3 [] [] [] [] ds sub) r3
 else (nameP r).bind fun s r1 =>
  (if isT [58] r1 then (nameP r1.tail).bind fun s2 r2 => .ok (s, s2) r2 else .ok (([] : List UInt8), s) r1).bind fun p r2 =>
   (argsP d r2).bind fun as r3 => (dirsP d (r3.length + 1) [] r3).bind fun ds r4 =>
    (if isS [123] r4 then g r4 else .ok [] r4).bind fun sub r5 => .ok (.mk 1 p.1 p.2 [] as ds sub) r5
def setP : Nat → List Tok → PR (List SL)
 | 0, r => .bad (atT r) 5
 | d + 1, r => (wantP [123] r).bind fun _ r1 => manyP (selP d (setP d)) [125] (r1.length + 1) [] r1
def varP (r : List Tok) : PR VD := (wantP [36] r).bind fun _ r1 => (nameP r1).bind fun s r2 => (wantP [58] r2).bind fun _ r3 => (typP 24 r3).bind fun t r4 =>
 if isT [61] r4 then (valueP true 24 r4.tail).bind fun v r5 => .ok ⟨s, t, true, v⟩ r5 else .ok ⟨s, t, false, VT.zero⟩ r4
def opP (r : List Tok) : PR OP :=
 (if isT wMutation r then .ok true r.tail else (wantP wQuery r).bind fun _ r1 => .ok false r1).bind fun m r1 =>
  (if isK 1 r1 then nameP r1 else .ok [] r1).bind fun s r2 =>
   (if isS [40] r2 then manyP varP [41] (r2.length + 1) [] r2.tail else .ok [] r2).bind fun vs r3 => (setP 24 r3).bind fun sub r4 => .ok ⟨m, s, vs, sub⟩ r4
def fragP (r : List Tok) : PR FR := if isW wOn r then .bad (atT r) 4 else (nameP r).bind fun s r1 => (wantP wOn r1).bind fun _ r2 => (nameP r2).bind fun o r3 => (setP 24 r3).bind fun sub r4 => .ok ⟨s, o, sub⟩ r4
def defP (d : DC) (r : List Tok) : PR DC :=
 if isS [123] r then (setP 24 r).bind fun sub r1 => .ok ⟨d.ops ++ [⟨false, [], [], sub⟩], d.frags⟩ r1
 else if isT wFragment r then (fragP r.tail).bind fun f r1 => .ok ⟨d.ops, d.frags ++ [f]⟩ r1
 else (opP r).bind fun o r1 => .ok ⟨d.ops ++ [o], d.frags⟩ r1
def docF : Nat → DC → List Tok → PR DC
 | 0, _, r => .bad (atT r) 4
 | n + 1, d, r => (defP d r).bind fun d1 r1 => if isK 0 r1 then .ok d1 r1 else docF n d1 r1
inductive DR1 where
 | ok (d : DC)
 | bad (a e : Nat)
def docP (s : List UInt8) : DR1 := match toks s with
 | .bad a e => .bad a e
 | .ok ts => match docF (ts.length + 1) ⟨[], []⟩ ts with
  | .ok d _ => .ok d
  | .bad a e => .bad a e
theorem isS_cons {s : List UInt8} {r : List Tok} (h : isS s r = true) : ∃ t r', r = t :: r' := by
 cases r with
 | nil => simp [isS] at h
 | cons t r' => exact ⟨t, r', rfl⟩
theorem argP_takes (d : Nat) : Takes (argP d) := fun r x r1 h => by
 unfold argP at h; obtain ⟨s, r2, h1, h2⟩ := bind_inv h; obtain ⟨u, r3, h3, h4⟩ := bind_inv h2; obtain ⟨v, r4, h5, h6⟩ := bind_inv h4
 injection h6 with _ h6; subst h6
 have := nameP_len h1; have := wantP_len h3; have := valueP_takes _ _ _ _ _ h5; omega
theorem argsP_len {d : Nat} {r r1 : List Tok} {l : List AR} (h : argsP d r = .ok l r1) : r1.length ≤ r.length := by
 unfold argsP at h
 split at h
 ·have := manyP_len (argP_takes d) _ _ _ _ _ h; rw [List.length_tail] at this; omega
 ·injection h with _ h; subst h; exact Nat.le_refl _
theorem dirP_takes (d : Nat) : Takes (dirP d) := fun r x r1 h => by
 unfold dirP at h; obtain ⟨s, r2, h1, h2⟩ := bind_inv h; obtain ⟨v, r4, h5, h6⟩ := bind_inv h2
 injection h6 with _ h6; subst h6
 have := nameP_len h1; have := argsP_len h5; omega
theorem dirsP_len (d : Nat) : ∀ (n : Nat) (acc : List DR) (r : List Tok) (l : List DR) (r1 : List Tok), dirsP d n acc r = .ok l r1 → r1.length ≤ r.length
 | 0, _, _, _, _, h => by cases h
 | n + 1, acc, r, l, r1, h => by
  rw [dirsP] at h
  split at h
  ·rename_i hs
   obtain ⟨x, r2, h1, h2⟩ := bind_inv h; have := isT_len hs; have := dirP_takes d _ _ _ h1; have := dirsP_len d n _ _ _ _ h2; omega
  ·injection h with _ h; subst h; exact Nat.le_refl _
theorem dirsP_fuel (d : Nat) : ∀ (n m : Nat) (acc : List DR) (r : List Tok), r.length < n → r.length < m → dirsP d n acc r = dirsP d m acc r
 | 0, _, _, _, h, _ => by omega
 | _, 0, _, _, _, h => by omega
 | n + 1, m + 1, acc, r, h1, h2 => by
  rw [dirsP, dirsP]
  by_cases hb : isT [64] r = true
  ·rw [if_pos hb, if_pos hb]; have h0 := isT_len hb
   cases hq : dirP d r.tail with
   | bad a e => rfl
   | ok x r1 =>
    have := dirP_takes d _ x r1 hq
    show dirsP d n (acc ++ [x]) r1 = dirsP d m (acc ++ [x]) r1
    rw [dirsP_fuel d n m (acc ++ [x]) r1 (by omega) (by omega)]
  ·rw [if_neg hb, if_neg hb]
theorem isS_T {s : List UInt8} {r : List Tok} (h : isS s r = true) : isT s r = true := by unfold isT; rw [h]; rfl
theorem selP_takes (d : Nat) {g : List Tok → PR (List SL)} (hg : Takes g) : Takes (selP d g) := fun r x r1 h => by
 unfold selP at h
 split at h
 ·rename_i hd
  have h0 := isT_len hd
  split at h
  ·rename_i ho
   have h1 := isT_len ho; obtain ⟨s, r2, h2, h⟩ := bind_inv h; obtain ⟨ds, r3, h3, h⟩ := bind_inv h; obtain ⟨sub, r4, h4, h⟩ := bind_inv h
   injection h with _ h; subst h
   have := nameP_len h2; have := dirsP_len d _ _ _ _ _ h3; have := hg _ _ _ h4; omega
  ·split at h
   ·obtain ⟨s, r2, h2, h⟩ := bind_inv h; obtain ⟨ds, r3, h3, h⟩ := bind_inv h
    injection h with _ h; subst h
    have := nameP_len h2; have := dirsP_len d _ _ _ _ _ h3; omega
   ·obtain ⟨ds, r3, h3, h⟩ := bind_inv h; obtain ⟨sub, r4, h4, h⟩ := bind_inv h
    injection h with _ h; subst h
    have := dirsP_len d _ _ _ _ _ h3; have := hg _ _ _ h4; omega
 ·obtain ⟨s, r2, h2, h⟩ := bind_inv h; obtain ⟨p, r3, h3, h⟩ := bind_inv h; obtain ⟨gs, r4, h4, h⟩ := bind_inv h; obtain ⟨ds, r5, h5, h⟩ := bind_inv h; obtain ⟨sub, r6, h6, h⟩ := bind_inv h
  injection h with _ h; subst h
  have a1 := nameP_len h2; have a2 : r3.length ≤ r2.length := by
   split at h3
   ·rename_i hc
    obtain ⟨s2, r7, h7, h3⟩ := bind_inv h3
    injection h3 with _ h3; subst h3
    have := isT_len hc; have := nameP_len h7; omega
   ·injection h3 with _ h3; subst h3; exact Nat.le_refl _
  have a3 := argsP_len h4; have a4 := dirsP_len d _ _ _ _ _ h5; have a5 : r6.length ≤ r5.length := by
   split at h6
   ·have := hg _ _ _ h6; omega
   ·injection h6 with _ h6; subst h6; exact Nat.le_refl _
  omega
theorem setP_takes : ∀ d, Takes (setP d)
 | 0 => fun r x r1 h => by cases h
 | d + 1 => fun r x r1 h => by
  rw [setP] at h; obtain ⟨u, r2, h1, h2⟩ := bind_inv h; have := wantP_len h1; have := manyP_len (selP_takes d (setP_takes d)) _ _ _ _ _ h2; omega
theorem varP_takes : Takes varP := fun r x r1 h => by
 unfold varP at h; obtain ⟨u, r2, h1, h⟩ := bind_inv h; obtain ⟨s, r3, h2, h⟩ := bind_inv h; obtain ⟨u2, r4, h3, h⟩ := bind_inv h; obtain ⟨t, r5, h4, h⟩ := bind_inv h; have := wantP_len h1; have := nameP_len h2; have := wantP_len h3; have := typP_takes _ _ _ _ h4
 split at h
 ·rename_i hs
  obtain ⟨v, r6, h5, h⟩ := bind_inv h
  injection h with _ h; subst h
  have := isT_len hs; have := valueP_takes _ _ _ _ _ h5; omega
 ·injection h with _ h; subst h; omega
theorem opP_takes : Takes opP := fun r x r1 h => by
 unfold opP at h; obtain ⟨m, r2, h1, h⟩ := bind_inv h; obtain ⟨s, r3, h2, h⟩ := bind_inv h; obtain ⟨vs, r4, h3, h⟩ := bind_inv h; obtain ⟨sub, r5, h4, h⟩ := bind_inv h
 injection h with _ h; subst h
 have a1 : r2.length < r.length := by
  split at h1
  ·rename_i hs; injection h1 with _ h1; subst h1; exact isT_len hs
  ·obtain ⟨u, r6, h6, h1⟩ := bind_inv h1
   injection h1 with _ h1; subst h1; exact wantP_len h6
 have a2 : r3.length ≤ r2.length := by
  split at h2
  ·have := nameP_len h2; omega
  ·injection h2 with _ h2; subst h2; exact Nat.le_refl _
 have a3 : r4.length ≤ r3.length := by
  split at h3
  ·have := manyP_len varP_takes _ _ _ _ _ h3; rw [List.length_tail] at this; omega
  ·injection h3 with _ h3; subst h3; exact Nat.le_refl _
 have a4 := setP_takes _ _ _ _ h4; omega
theorem fragP_takes : Takes fragP := fun r x r1 h => by
 unfold fragP at h
 split at h
 ·cases h
 ·obtain ⟨s, r2, h1, h⟩ := bind_inv h; obtain ⟨u, r3, h2, h⟩ := bind_inv h; obtain ⟨o, r4, h3, h⟩ := bind_inv h; obtain ⟨sub, r5, h4, h⟩ := bind_inv h
  injection h with _ h; subst h
  have := nameP_len h1; have := wantP_len h2; have := nameP_len h3; have := setP_takes _ _ _ _ h4; omega
theorem defP_takes (d : DC) : Takes (defP d) := fun r x r1 h => by
 unfold defP at h
 split at h
 ·obtain ⟨sub, r2, h1, h⟩ := bind_inv h
  injection h with _ h; subst h
  exact setP_takes _ _ _ _ h1
 ·split at h
  ·rename_i hs
   obtain ⟨f, r2, h1, h⟩ := bind_inv h
   injection h with _ h; subst h
   have := isT_len hs; have := fragP_takes _ _ _ h1; omega
  ·obtain ⟨o, r2, h1, h⟩ := bind_inv h
   injection h with _ h; subst h
   exact opP_takes _ _ _ h1
theorem docF_fuel : ∀ (n m : Nat) (d : DC) (r : List Tok), r.length < n → r.length < m → docF n d r = docF m d r
 | 0, _, _, _, h, _ => by omega
 | _, 0, _, _, _, h => by omega
 | n + 1, m + 1, d, r, h1, h2 => by
  rw [docF, docF]
  cases hq : defP d r with
  | bad a e => rfl
  | ok x r1 =>
   have := defP_takes d r x r1 hq
   show (if isK 0 r1 then PR.ok x r1 else docF n x r1) = (if isK 0 r1 then PR.ok x r1 else docF m x r1)
   rw [docF_fuel n m x r1 (by omega) (by omega)]
def NZ {α : Type} : PR α → Prop
 | .ok _ _ => True
 | .bad _ e => e ≠ 0
theorem nz_bind {α β : Type} {p : PR α} {f : α → List Tok → PR β} (h : NZ p) (hf : ∀ x r, NZ (f x r)) : NZ (p.bind f) := by
 cases p with
 | ok x r => exact hf x r
 | bad a e => exact h
theorem nz_if {α : Type} {c : Prop} [Decidable c] {p q : PR α} (h1 : NZ p) (h2 : NZ q) : NZ (if c then p else q) := by
 split
 ·exact h1
 ·exact h2
theorem nz_want (s : List UInt8) (r : List Tok) : NZ (wantP s r) := by unfold wantP; exact nz_if trivial (by show (4 : Nat) ≠ 0; decide)
theorem nz_name (r : List Tok) : NZ (nameP r) := by
 cases r with
 | nil => show (4 : Nat) ≠ 0; decide
 | cons t r => show NZ (if t.kind = 1 then .ok t.text r else .bad t.at_ 4); exact nz_if trivial (by show (4 : Nat) ≠ 0; decide)
theorem nz_many {α : Type} {f : List Tok → PR α} (hf : ∀ r, NZ (f r)) (c : List UInt8) : ∀ (n : Nat) (acc : List α) (r : List Tok), NZ (manyP f c n acc r)
 | 0, _, _ => by show (4 : Nat) ≠ 0; decide
 | n + 1, acc, r => by rw [manyP]; exact nz_bind (hf r) fun x r1 => nz_if trivial (nz_many hf c n _ _)
theorem nz_any {α : Type} {f : List Tok → PR α} (hf : ∀ r, NZ (f r)) (c : List UInt8) : ∀ (n : Nat) (acc : List α) (r : List Tok), NZ (anyP f c n acc r)
 | 0, _, _ => by show (4 : Nat) ≠ 0; decide
 | n + 1, acc, r => by rw [anyP]; exact nz_if trivial (nz_bind (hf r) fun x r1 => nz_any hf c n _ _)
theorem nz_pair {f : List Tok → PR VT} (hf : ∀ r, NZ (f r)) (r : List Tok) : NZ (pairP f r) := nz_bind (nz_name _) fun _ _ => nz_bind (nz_want _ _) fun _ _ => nz_bind (hf _) fun _ _ => trivial
theorem nz_valueB (fixed : Bool) {f : List Tok → PR VT} (hf : ∀ r, NZ (f r)) (r : List Tok) : NZ (valueB fixed f r) := by
 cases r with
 | nil => show (4 : Nat) ≠ 0; decide
 | cons t r =>
  show NZ (if t.kind = 2 then .ok (.mk 1 t.n [] [] []) r
   else if t.kind = 3 then .ok (.mk 2 0 t.text [] []) r
   else if isT wTrue (t :: r) then .ok (.mk 3 1 [] [] []) r
   else if isT wFalse (t :: r) then .ok (.mk 3 0 [] [] []) r
   else if isT wNull (t :: r) then .ok VT.zero r
   else if t.kind = 1 then .ok (.mk 4 0 t.text [] []) r
   else if !fixed && isT [36] (t :: r) then (nameP r).bind fun s r1 => .ok (.mk 7 0 s [] []) r1
   else if isT [91] (t :: r) then (anyP f [93] (r.length + 1) [] r).bind fun vs r1 => .ok (.mk 5 0 [] [] vs) r1
   else if isT [123] (t :: r) then (anyP (pairP f) [125] (r.length + 1) [] r).bind fun ps r1 => .ok (.mk 6 0 [] (ps.map (·.1)) (ps.map (·.2))) r1
   else .bad t.at_ 4)
  exact nz_if trivial (nz_if trivial (nz_if trivial (nz_if trivial (nz_if trivial (nz_if trivial (nz_if (nz_bind (nz_name _) fun _ _ => trivial) (nz_if (nz_bind (nz_any hf _ _ _ _) fun _ _ => trivial) (nz_if (nz_bind (nz_any (nz_pair hf) _ _ _ _) fun _ _ => trivial) (by show (4 : Nat) ≠ 0; decide)))))))))
theorem nz_value (fixed : Bool) : ∀ (d : Nat) (r : List Tok), NZ (valueP fixed d r)
 | 0, r => by show (5 : Nat) ≠ 0; decide
 | d + 1, r => nz_valueB fixed (nz_value fixed d) r
theorem nz_bang (mk : Bool → TR) (r : List Tok) : NZ (bangP mk r) := by unfold bangP; exact nz_if trivial trivial
theorem nz_typ : ∀ (d : Nat) (r : List Tok), NZ (typP d r)
 | 0, r => by show (5 : Nat) ≠ 0; decide
 | d + 1, r => by rw [typP]; exact nz_if (nz_bind (nz_typ d _) fun _ _ => nz_bind (nz_want _ _) fun _ _ => nz_bang _ _) (nz_bind (nz_name _) fun _ _ => nz_bang _ _)
theorem nz_arg (d : Nat) (r : List Tok) : NZ (argP d r) := nz_bind (nz_name _) fun _ _ => nz_bind (nz_want _ _) fun _ _ => nz_bind (nz_value _ _ _) fun _ _ => trivial
theorem nz_args (d : Nat) (r : List Tok) : NZ (argsP d r) := by unfold argsP; exact nz_if (nz_many (nz_arg d) _ _ _ _) trivial
theorem nz_dir (d : Nat) (r : List Tok) : NZ (dirP d r) := nz_bind (nz_name _) fun _ _ => nz_bind (nz_args _ _) fun _ _ => trivial
theorem nz_dirs (d : Nat) : ∀ (n : Nat) (acc : List DR) (r : List Tok), NZ (dirsP d n acc r)
 | 0, _, _ => by show (4 : Nat) ≠ 0; decide
 | n + 1, acc, r => by rw [dirsP]; exact nz_if (nz_bind (nz_dir d _) fun _ _ => nz_dirs d n _ _) trivial
theorem nz_sel (d : Nat) {g : List Tok → PR (List SL)} (hg : ∀ r, NZ (g r)) (r : List Tok) : NZ (selP d g r) := by
 unfold selP; exact nz_if (nz_if (nz_bind (nz_name _) fun _ _ => nz_bind (nz_dirs _ _ _ _) fun _ _ => nz_bind (hg _) fun _ _ => trivial) (nz_if (nz_bind (nz_name _) fun _ _ => nz_bind (nz_dirs _ _ _ _) fun _ _ => trivial) (nz_bind (nz_dirs _ _ _ _) fun _ _ => nz_bind (hg _) fun _ _ => trivial)))
  (nz_bind (nz_name _) fun _ _ => nz_bind (nz_if (nz_bind (nz_name _) fun _ _ => trivial) trivial) fun _ _ => nz_bind (nz_args _ _) fun _ _ => nz_bind (nz_dirs _ _ _ _) fun _ _ => nz_bind (nz_if (hg _) trivial) fun _ _ => trivial)
theorem nz_set : ∀ (d : Nat) (r : List Tok), NZ (setP d r)
 | 0, r => by show (5 : Nat) ≠ 0; decide
 | d + 1, r => by rw [setP]; exact nz_bind (nz_want _ _) fun _ _ => nz_many (nz_sel d (nz_set d)) _ _ _ _
theorem nz_var (r : List Tok) : NZ (varP r) := by
 unfold varP; exact nz_bind (nz_want _ _) fun _ _ => nz_bind (nz_name _) fun _ _ => nz_bind (nz_want _ _) fun _ _ => nz_bind (nz_typ _ _) fun _ _ => nz_if (nz_bind (nz_value _ _ _) fun _ _ => trivial) trivial
theorem nz_op (r : List Tok) : NZ (opP r) := by
 unfold opP; exact nz_bind (nz_if trivial (nz_bind (nz_want _ _) fun _ _ => trivial)) fun _ _ => nz_bind (nz_if (nz_name _) trivial) fun _ _ => nz_bind (nz_if (nz_many nz_var _ _ _ _) trivial) fun _ _ => nz_bind (nz_set _ _) fun _ _ => trivial
theorem nz_frag (r : List Tok) : NZ (fragP r) := by
 unfold fragP; exact nz_if (by show (4 : Nat) ≠ 0; decide) (nz_bind (nz_name _) fun _ _ => nz_bind (nz_want _ _) fun _ _ => nz_bind (nz_name _) fun _ _ => nz_bind (nz_set _ _) fun _ _ => trivial)
theorem nz_def (d : DC) (r : List Tok) : NZ (defP d r) := by
 unfold defP; exact nz_if (nz_bind (nz_set _ _) fun _ _ => trivial) (nz_if (nz_bind (nz_frag _) fun _ _ => trivial) (nz_bind (nz_op _) fun _ _ => trivial))
theorem nz_doc : ∀ (n : Nat) (d : DC) (r : List Tok), NZ (docF n d r)
 | 0, _, _ => by show (4 : Nat) ≠ 0; decide
 | n + 1, d, r => by rw [docF]; exact nz_bind (nz_def d r) fun _ _ => nz_if trivial (nz_doc n _ _)
theorem docF_bad {n : Nat} {d : DC} {r : List Tok} {a e : Nat} (h : docF n d r = .bad a e) : e ≠ 0 := by
 have := nz_doc n d r; rw [h] at this; exact this
end Go.Proofs.YtnkpoddbbdmipaaGreatDoor
