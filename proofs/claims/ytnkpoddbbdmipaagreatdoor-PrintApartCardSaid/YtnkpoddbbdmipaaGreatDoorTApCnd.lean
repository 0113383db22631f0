/- . -/
import Derived.Test.YtnkpoddbbdmipaaGreatDoorTApPng
namespace Go.Proofs.YtnkpoddbbdmipaaGreatDoor
set_option linter.unusedVariables false
set_option linter.unusedSimpArgs false
def rl (l : List It) : Nat := (ren l).length
theorem rl_nil : rl [] = 0 := rfl
theorem rl_app (a b : List It) : rl (a ++ b) = rl a + rl b := by unfold rl; rw [ren_app, List.length_append]
theorem rl_cons (i : It) (b : List It) : rl (i :: b) = i.src.length + rl b := by unfold rl; rw [ren_cons, List.length_append]
theorem rl_nm (s : List UInt8) : (nmI s).src.length = s.length := rfl
theorem rl_sg (c : UInt8) : (sgI c).src.length = 1 := rfl
theorem rl_sp (c : UInt8) : (It.sp c).src.length = 1 := rfl
def sumB {α : Type} (μ : α → Nat) : List α → Nat
 | [] => 0
 | x :: l => μ x + sumB μ l
theorem sumB_app {α : Type} (μ : α → Nat) : ∀ (l m : List α), sumB μ (l ++ m) = sumB μ l + sumB μ m
 | [], m => by simp [sumB]
 | x :: l, m => by show μ x + sumB μ (l ++ m) = μ x + sumB μ l + sumB μ m; rw [sumB_app μ l m]; omega
theorem sumB_le {α : Type} {μ ν : α → Nat} (h : ∀ x, μ x ≤ ν x) : ∀ l : List α, sumB μ l ≤ sumB ν l
 | [] => Nat.le_refl _
 | x :: l => Nat.add_le_add (h x) (sumB_le h l)
theorem sumB_map {α β : Type} (μ : β → Nat) (f : α → β) : ∀ l : List α, sumB μ (l.map f) = sumB (fun x => μ (f x)) l
 | [] => rfl
 | x :: l => by show μ (f x) + sumB μ (l.map f) = _; rw [sumB_map μ f l]; rfl
theorem flat_sum {α : Type} (f : α → List It) : ∀ l : List α, rl (l.flatMap f) = sumB (fun x => rl (f x)) l
 | [] => rfl
 | x :: l => by rw [List.flatMap_cons, rl_app, flat_sum f l]; rfl
theorem sep_sum (g : List It) (l : List (List It)) : rl (sepI g l) ≤ sumB (fun b => rl b + rl g) l := by
 cases l with
 | nil => exact Nat.le_refl _
 | cons a l =>
  show rl (a ++ l.flatMap fun b => g ++ b) ≤ (rl a + rl g) + sumB _ l
  rw [rl_app, flat_sum]; have : sumB (fun x => rl (g ++ x)) l = sumB (fun b => rl b + rl g) l := by
   congr 1; funext x; rw [rl_app]; omega
  omega
theorem isT_tl {s : List UInt8} {r : List Tok} (h : isT s r = true) : r.tail.length + 1 = r.length := by
 cases r with
 | nil => simp [isT, isS, isW] at h
 | cons t r => rfl
theorem sz_name {r : List Tok} {x : List UInt8} {r1 : List Tok} (h : GT r) (e : nameP r = .ok x r1) : x.length ≤ 32 ∧ r1.length + 1 = r.length ∧ GT r1 := by
 obtain ⟨h1, h2⟩ := gd_name r x r1 h e; refine ⟨h1.len, ?_, h2⟩
 cases r with
 | nil => cases e
 | cons t r =>
  have e : (if t.kind = 1 then PR.ok t.text r else .bad t.at_ 4) = .ok x r1 := e
  split at e
  ·injection e with e1 e2; subst e2; rfl
  ·cases e
theorem sz_want {s : List UInt8} {r : List Tok} {u : Unit} {r1 : List Tok} (h : GT r) (e : wantP s r = .ok u r1) : r1.length + 1 = r.length ∧ GT r1 := by
 refine ⟨?_, (gd_want s r u r1 h e).2⟩
 unfold wantP at e
 split at e
 ·rename_i hc
  injection e with e1 e2; subst e2; exact isT_tl hc
 ·cases e
def Sz {α : Type} (f : List Tok → PR α) (μ : α → Nat) : Prop := ∀ r x r1, GT r → f r = .ok x r1 → μ x + 500 * r1.length ≤ 500 * r.length ∧ GT r1
theorem sz_any {α : Type} {f : List Tok → PR α} {μ : α → Nat} (hf : Sz f μ) (c : List UInt8) : ∀ (n : Nat) (acc : List α) r l r1, GT r → anyP f c n acc r = .ok l r1 → sumB μ l + 500 * r1.length + 500 ≤ sumB μ acc + 500 * r.length ∧ GT r1
 | 0, acc, r, l, r1, h, e => by cases e
 | n + 1, acc, r, l, r1, h, e => by
  rw [anyP] at e
  split at e
  ·rename_i hc
   have := isT_tl hc
   injection e with e1 e2; subst e1; subst e2; exact ⟨by omega, h.tail⟩
  ·obtain ⟨y, r2, h1, h2⟩ := bind_inv e; obtain ⟨k1, k2⟩ := hf r y r2 h h1; obtain ⟨k3, k4⟩ := sz_any hf c n _ r2 l r1 k2 h2; rw [sumB_app] at k3; have : sumB μ [y] = μ y := by simp [sumB]
   exact ⟨by omega, k4⟩
theorem sz_many {α : Type} {f : List Tok → PR α} {μ : α → Nat} (hf : Sz f μ) (c : List UInt8) : ∀ (n : Nat) (acc : List α) r l r1, GT r → manyP f c n acc r = .ok l r1 → sumB μ l + 500 * r1.length + 500 ≤ sumB μ acc + 500 * r.length ∧ GT r1
 | 0, acc, r, l, r1, h, e => by cases e
 | n + 1, acc, r, l, r1, h, e => by
  rw [manyP] at e; obtain ⟨y, r2, h1, h2⟩ := bind_inv e; obtain ⟨k1, k2⟩ := hf r y r2 h h1; have hy : sumB μ [y] = μ y := by simp [sumB]
  split at h2
  ·rename_i hc
   have := isT_tl hc
   injection h2 with e1 e2; subst e1; subst e2
   rw [sumB_app]; exact ⟨by omega, k2.tail⟩
  ·obtain ⟨k3, k4⟩ := sz_many hf c n _ r2 l r1 k2 h2; rw [sumB_app] at k3; exact ⟨by omega, k4⟩
theorem num_rl {n : Int} (h : NumOk n) : (numS n).length ≤ 20 := by
 have := digS_len 17 n.natAbs (by unfold NumOk at h; omega); unfold numS sgn
 split <;> simp <;> omega
theorem esc_rl : ∀ l : List UInt8, (escS l).length ≤ 2 * l.length
 | [] => by simp [escS]
 | c :: l => by
  have := esc_rl l; have h1 : (esc1 c).length ≤ 2 := by
    unfold esc1; repeat' split
    all_goals simp
  rw [escS_cons, List.length_append, List.length_cons]; omega
theorem zip_map (ps : List (List UInt8 × VT)) : List.zipWith pairI (ps.map (·.1)) ((ps.map (·.2)).map valI) = ps.map fun p => pairI p.1 (valI p.2) := by
 induction ps with
 | nil => rfl
 | cons p ps ih => simp only [List.map_cons, List.zipWith_cons_cons, ih]
theorem rl_gap : rl gapI = 2 := rfl
theorem sz_val (fx : Bool) : ∀ d, Sz (valueP fx d) (fun v => rl (valI v) + 8)
 | 0 => fun r x r1 h e => by cases e
 | d + 1 => fun r x r1 h e => by
  have ih := sz_val fx d; have hgd := (gd_val fx (d + 1) r x r1 h e).2; refine ⟨?_, hgd⟩
  cases r with
  | nil => cases e
  | cons t r =>
   rw [valueP, vB_cons] at e; have ht := h t (by simp); have hr : GT r := fun u hu => h u (by simp [hu])
   simp only [List.length_cons]
   split at e
   ·rename_i hk
    injection e with e1 e2; subst e1; subst e2
    have := num_rl (ht.2.1 hk); rw [valI_eq, if_pos rfl, rl_cons, rl_nil]
    show (numS t.n).length + 0 + 8 + _ ≤ _; (try dsimp only at *); omega
   split at e
   ·rename_i hk
    injection e with e1 e2; subst e1; subst e2
    have h1 := esc_rl t.text; have h2 := ht.2.2 hk; rw [valI_eq, if_neg (by decide), if_pos (by decide), rl_cons, rl_nil]
    show (34 :: (escS t.text ++ [34])).length + 0 + 8 + _ ≤ _
    simp only [List.length_cons, List.length_append, List.length_nil]; (try dsimp only at *); omega
   split at e
   ·injection e with e1 e2; subst e1; subst e2
    show 4 + 8 + _ ≤ _; (try dsimp only at *); omega
   split at e
   ·injection e with e1 e2; subst e1; subst e2
    show 5 + 8 + _ ≤ _; (try dsimp only at *); omega
   split at e
   ·injection e with e1 e2; subst e1; subst e2
    show 4 + 8 + _ ≤ _; (try dsimp only at *); omega
   split at e
   ·rename_i hk
    injection e with e1 e2; subst e1; subst e2
    have := (ht.1 hk).len; rw [valI_eq, if_neg (by decide), if_neg (by decide), if_neg (by decide), if_pos rfl, rl_cons, rl_nil, rl_nm]; (try dsimp only at *); omega
   split at e
   ·obtain ⟨s, r2, k1, k2⟩ := bind_inv e; obtain ⟨g1, g2, g3⟩ := sz_name hr k1
    injection k2 with e1 e2; subst e1; subst e2
    rw [valI_eq, if_neg (by decide), if_neg (by decide), if_neg (by decide), if_neg (by decide), if_pos rfl, rl_cons, rl_cons, rl_nil, rl_nm, rl_sg]; (try dsimp only at *); omega
   split at e
   ·obtain ⟨vs, r2, k1, k2⟩ := bind_inv e; obtain ⟨g1, g2⟩ := sz_any ih _ _ [] r vs r2 hr k1
    injection k2 with e1 e2; subst e1; subst e2
    have h1 := sep_sum gapI (vs.map valI); rw [sumB_map, rl_gap] at h1; have h2 := sumB_le (μ := fun v => rl (valI v) + 2) (ν := fun v => rl (valI v) + 8) (fun v => by omega) vs; have h3 : sumB (fun v => rl (valI v) + 8) [] = 0 := rfl; rw [valI_eq, if_neg (by decide), if_neg (by decide), if_neg (by decide), if_neg (by decide), if_neg (by decide), if_pos rfl, rl_cons, rl_app, rl_cons, rl_nil, rl_sg, rl_sg]; (try dsimp only at *); omega
   split at e
   ·obtain ⟨ps, r2, k1, k2⟩ := bind_inv e; have hpair : Sz (pairP (valueP fx d)) (fun p => rl (pairI p.1 (valI p.2)) + 8) := fun r x r1 h e => by
     obtain ⟨s, q1, j1, e⟩ := bind_inv e; obtain ⟨u, q2, j2, e⟩ := bind_inv e; obtain ⟨v, q3, j3, e⟩ := bind_inv e
     injection e with e1 e2; subst e1; subst e2
     obtain ⟨g1, g2, g3⟩ := sz_name h j1; obtain ⟨g4, g5⟩ := sz_want g3 j2; obtain ⟨g6, g7⟩ := ih _ _ _ g5 j3; refine ⟨?_, g7⟩
     show rl (nmI s :: sgI 58 :: .sp 32 :: valI v) + 8 + _ ≤ _
     rw [rl_cons, rl_cons, rl_cons, rl_nm, rl_sg, rl_sp]; (try dsimp only at *); omega
    obtain ⟨g1, g2⟩ := sz_any hpair _ _ [] r ps r2 hr k1
    injection k2 with e1 e2; subst e1; subst e2
    have h1 := sep_sum gapI (ps.map fun p => pairI p.1 (valI p.2)); rw [sumB_map, rl_gap] at h1; have h2 := sumB_le (μ := fun p : List UInt8 × VT => rl (pairI p.1 (valI p.2)) + 2) (ν := fun p => rl (pairI p.1 (valI p.2)) + 8) (fun v => by omega) ps; have h3 : sumB (fun p : List UInt8 × VT => rl (pairI p.1 (valI p.2)) + 8) [] = 0 := rfl; rw [valI_eq, if_neg (by decide), if_neg (by decide), if_neg (by decide), if_neg (by decide), if_neg (by decide), if_neg (by decide), if_pos rfl, zip_map, rl_cons, rl_app, rl_cons, rl_nil, rl_sg, rl_sg]; (try dsimp only at *); omega
   ·cases e
theorem rl_bang (b : Bool) : rl (bangI b) ≤ 1 := by cases b <;> decide
theorem sz_bang (mk : Bool → TR) {r : List Tok} {x : TR} {r1 : List Tok} (h : GT r) (e : bangP mk r = .ok x r1) : ∃ b, x = mk b ∧ r1.length ≤ r.length ∧ GT r1 := by
 unfold bangP at e
 split at e
 ·injection e with e1 e2; subst e1; subst e2; exact ⟨true, rfl, by rw [List.length_tail]; omega, h.tail⟩
 ·injection e with e1 e2; subst e1; subst e2; exact ⟨false, rfl, Nat.le_refl _, h⟩
theorem sz_typ : ∀ d, Sz (typP d) (fun t => rl (typI t) + 8)
 | 0 => fun r x r1 h e => by cases e
 | d + 1 => fun r x r1 h e => by
  rw [typP] at e
  split at e
  ·rename_i hc
   have hl := isT_tl hc; obtain ⟨t, q1, j1, e⟩ := bind_inv e; obtain ⟨u, q2, j2, e⟩ := bind_inv e; obtain ⟨g1, g2⟩ := sz_typ d _ _ _ h.tail j1; obtain ⟨g3, g4⟩ := sz_want g2 j2; obtain ⟨b, rfl, g5, g6⟩ := sz_bang _ g4 e; refine ⟨?_, g6⟩
   have hb := rl_bang b
   show rl (typI (.ls t b)) + 8 + _ ≤ _
   rw [typI, rl_cons, rl_app, rl_cons, rl_sg, rl_sg]; (try dsimp only at *); omega
  ·obtain ⟨s, q1, j1, e⟩ := bind_inv e; obtain ⟨g1, g2, g3⟩ := sz_name h j1; obtain ⟨b, rfl, g5, g6⟩ := sz_bang _ g3 e; refine ⟨?_, g6⟩
   have hb := rl_bang b
   show rl (typI (.nm s b)) + 8 + _ ≤ _
   rw [typI, rl_cons, rl_nm]; (try dsimp only at *); omega
theorem rl_par {α : Type} (f : α → List It) (l : List α) : rl (parI (l.map f)) ≤ 2 + sumB (fun x => rl (f x) + 8) l := by
 unfold parI
 split
 ·rw [rl_nil]; (try dsimp only at *); omega
 ·have h1 := sep_sum gapI (l.map f); rw [sumB_map, rl_gap] at h1; have h2 := sumB_le (μ := fun x => rl (f x) + 2) (ν := fun x => rl (f x) + 8) (fun v => by omega) l; rw [rl_cons, rl_app, rl_cons, rl_nil, rl_sg, rl_sg]; (try dsimp only at *); omega
theorem isS_tl {s : List UInt8} {r : List Tok} (h : isS s r = true) : r.tail.length + 1 = r.length := by
 cases r with
 | nil => simp [isS] at h
 | cons t r => rfl
theorem sz_arg (d : Nat) : Sz (argP d) (fun a => rl (argI a) + 8) := fun r x r1 h e => by
 unfold argP at e; obtain ⟨s, q1, j1, e⟩ := bind_inv e; obtain ⟨u, q2, j2, e⟩ := bind_inv e; obtain ⟨v, q3, j3, e⟩ := bind_inv e
 injection e with e1 e2; subst e1; subst e2
 obtain ⟨g1, g2, g3⟩ := sz_name h j1; obtain ⟨g4, g5⟩ := sz_want g3 j2; obtain ⟨g6, g7⟩ := sz_val false d _ _ _ g5 j3; refine ⟨?_, g7⟩
 show rl (nmI s :: sgI 58 :: .sp 32 :: valI v) + 8 + _ ≤ _
 rw [rl_cons, rl_cons, rl_cons, rl_nm, rl_sg, rl_sp]; (try dsimp only at *); omega
theorem sz_args (d : Nat) : Sz (argsP d) (fun l => rl (argsI l)) := fun r x r1 h e => by
 unfold argsP at e
 split at e
 ·rename_i hc
  have hl := isS_tl hc; obtain ⟨k1, k2⟩ := sz_many (sz_arg d) _ _ [] _ _ _ h.tail e; have h3 : sumB (fun a => rl (argI a) + 8) [] = 0 := rfl; have hp := rl_par argI x; refine ⟨?_, k2⟩
  show rl (parI (x.map argI)) + _ ≤ _
  omega
 ·injection e with e1 e2; subst e1; subst e2
  exact ⟨by show 0 + _ ≤ _; omega, h⟩
theorem sz_dir (d : Nat) {r : List Tok} {x : DR} {r1 : List Tok} (h : GT r) (e : dirP d r = .ok x r1) : rl (dirI x) + 500 * r1.length + 400 ≤ 500 * r.length ∧ GT r1 := by
 unfold dirP at e; obtain ⟨s, q1, j1, e⟩ := bind_inv e; obtain ⟨l, q2, j2, e⟩ := bind_inv e
 injection e with e1 e2; subst e1; subst e2
 obtain ⟨g1, g2, g3⟩ := sz_name h j1; obtain ⟨g6, g7⟩ := sz_args d _ _ _ g3 j2; refine ⟨?_, g7⟩
 show rl (.sp 32 :: sgI 64 :: nmI s :: argsI l) + _ + 400 ≤ _
 rw [rl_cons, rl_cons, rl_cons, rl_nm, rl_sg, rl_sp]; (try dsimp only at *); omega
theorem sz_dirs (d : Nat) : ∀ (n : Nat) (acc : List DR) r l r1, GT r → dirsP d n acc r = .ok l r1 → rl (l.flatMap dirI) + 500 * r1.length ≤ rl (acc.flatMap dirI) + 500 * r.length ∧ GT r1
 | 0, acc, r, l, r1, h, e => by cases e
 | n + 1, acc, r, l, r1, h, e => by
  rw [dirsP] at e
  split at e
  ·rename_i hc
   have hl := isT_tl hc; obtain ⟨y, r2, h1, h2⟩ := bind_inv e; obtain ⟨g1, g2⟩ := sz_dir d h.tail h1; obtain ⟨k3, k4⟩ := sz_dirs d n _ r2 l r1 g2 h2; rw [List.flatMap_append, rl_app] at k3; have : rl ([y].flatMap dirI) = rl (dirI y) := by simp
   exact ⟨by omega, k4⟩
  ·injection e with e1 e2; subst e1; subst e2; exact ⟨Nat.le_refl _, h⟩
theorem sz_dirs' (d : Nat) {n : Nat} {r : List Tok} {l : List DR} {r1 : List Tok} (h : GT r) (e : dirsP d n [] r = .ok l r1) : rl (l.flatMap dirI) + 500 * r1.length ≤ 500 * r.length ∧ GT r1 := by
 have := sz_dirs d _ _ _ _ _ h e; have h0 : rl (([] : List DR).flatMap dirI) = 0 := rfl; exact ⟨by omega, this.2⟩
theorem rl_sub (sub : List SL) : rl (if sub = [] then [] else setI sub) ≤ rl (setI sub) := by
 split
 ·rw [rl_nil]; omega
 ·omega
theorem rl_do : doI.src.length = 3 := rfl
theorem sz_sel (d : Nat) {g : List Tok → PR (List SL)} (hg : Sz g (fun l => rl (setI l) + 900)) : Sz (selP d g) (fun x => rl (selI x) + 8) := fun r x r1 h e => by
 unfold selP at e
 split at e
 ·rename_i hd
  have hdl := isT_tl hd
  split at e
  ·rename_i ho
   have hol := isT_tl ho; obtain ⟨s, r2, h1, e⟩ := bind_inv e; obtain ⟨k1, k2, q1⟩ := sz_name h.tail.tail h1; obtain ⟨ds, r3, h2, e⟩ := bind_inv e; obtain ⟨k3, q2⟩ := sz_dirs' d q1 h2; obtain ⟨sub, r4, h3, e⟩ := bind_inv e; obtain ⟨k4, q3⟩ := hg _ _ _ q2 h3
   injection e with e1 e2; subst e1; subst e2
   refine ⟨?_, q3⟩
   have hsub := rl_sub sub; have hh : rl (headI 3 [] [] s []) ≤ 50 := by
    unfold headI; rw [if_neg (by decide), if_neg (by decide), rl_cons, rl_do]
    split
    ·rw [rl_nil]; omega
    ·rw [rl_cons, rl_cons, rl_cons, rl_cons, rl_nil, rl_nm, rl_nm, rl_sp]; have : wOn.length = 2 := rfl; omega
   show rl (selI _) + 8 + _ ≤ _
   rw [selI_eq, rl_app, rl_app]; (try dsimp only at *); omega
  ·split at e
   ·obtain ⟨s, r2, h1, e⟩ := bind_inv e; obtain ⟨k1, k2, q1⟩ := sz_name h.tail h1; obtain ⟨ds, r3, h2, e⟩ := bind_inv e; obtain ⟨k3, q2⟩ := sz_dirs' d q1 h2
    injection e with e1 e2; subst e1; subst e2
    refine ⟨?_, q2⟩
    have hh : rl (headI 2 [] s [] []) ≤ 50 := by
     unfold headI; rw [if_neg (by decide), if_pos rfl, rl_cons, rl_cons, rl_nil, rl_do, rl_nm]; omega
    show rl (selI _) + 8 + _ ≤ _
    rw [selI_eq, rl_app, rl_app, if_pos rfl, rl_nil]; (try dsimp only at *); omega
   ·obtain ⟨ds, r3, h2, e⟩ := bind_inv e; obtain ⟨k3, q2⟩ := sz_dirs' d h.tail h2; obtain ⟨sub, r4, h3, e⟩ := bind_inv e; obtain ⟨k4, q3⟩ := hg _ _ _ q2 h3
    injection e with e1 e2; subst e1; subst e2
    refine ⟨?_, q3⟩
    have hsub := rl_sub sub; have hh : rl (headI 3 [] [] [] []) = 3 := rfl
    show rl (selI _) + 8 + _ ≤ _
    rw [selI_eq, rl_app, rl_app]; (try dsimp only at *); omega
 ·obtain ⟨s, r2, h1, e⟩ := bind_inv e; obtain ⟨k1, k2, q1⟩ := sz_name h h1; obtain ⟨p, r3, h2, e⟩ := bind_inv e; obtain ⟨k3, q2⟩ : (p.1.length ≤ 32 ∧ p.2.length ≤ 32 ∧ r3.length ≤ r2.length) ∧ GT r3 := by
   split at h2
   ·rename_i hc
    have hcl := isT_tl hc; obtain ⟨s2, r4, h3, h4⟩ := bind_inv h2; obtain ⟨g1, g2, q3⟩ := sz_name q1.tail h3
    injection h4 with e1 e2; subst e1; subst e2
    exact ⟨⟨k1, g1, by omega⟩, q3⟩
   ·injection h2 with e1 e2; subst e1; subst e2
    exact ⟨⟨by simp, k1, Nat.le_refl _⟩, q1⟩
  obtain ⟨gs, r4, h3, e⟩ := bind_inv e; obtain ⟨k4, q3⟩ := sz_args d _ _ _ q2 h3; obtain ⟨ds, r5, h4, e⟩ := bind_inv e; obtain ⟨k5, q4⟩ := sz_dirs' d q3 h4; obtain ⟨sub, r6, h5, e⟩ := bind_inv e; obtain ⟨k6, q5⟩ : rl (if sub = [] then [] else setI sub) + 500 * r6.length ≤ 500 * r5.length ∧ GT r6 := by
   split at h5
   ·obtain ⟨g1, g2⟩ := hg _ _ _ q4 h5; have := rl_sub sub; exact ⟨by (try dsimp only at *); omega, g2⟩
   ·injection h5 with e1 e2; subst e1; subst e2
    exact ⟨by rw [if_pos rfl, rl_nil]; omega, q4⟩
  injection e with e1 e2; subst e1; subst e2
  refine ⟨?_, q5⟩
  have hh : rl (headI 1 p.1 p.2 [] gs) ≤ 66 + rl (argsI gs) := by
   unfold headI; rw [if_pos rfl, rl_app, rl_cons, rl_nm]
   split
   ·rw [rl_nil]; omega
   ·rw [rl_cons, rl_cons, rl_cons, rl_nil, rl_nm, rl_sg, rl_sp]; omega
  show rl (selI _) + 8 + _ ≤ _
  rw [selI_eq, rl_app, rl_app]; (try dsimp only at *); omega
theorem rl_set (l : List SL) : rl (setI l) ≤ 4 + sumB (fun x => rl (selI x) + 8) l := by
 unfold setI brI; rw [selsI_map]; have h1 := flat_sum (fun x => It.sp 32 :: selI x) l; have h2 := sumB_le (μ := fun x => rl (It.sp 32 :: selI x)) (ν := fun x => rl (selI x) + 8) (fun x => by show rl (It.sp 32 :: selI x) ≤ _; rw [rl_cons, rl_sp]; omega) l; rw [rl_cons, rl_cons, rl_app, rl_cons, rl_cons, rl_nil, rl_sp, rl_sg, rl_sg]; omega
theorem sz_set : ∀ d, Sz (setP d) (fun l => rl (setI l) + 900)
 | 0 => fun r x r1 h e => by cases e
 | d + 1 => fun r x r1 h e => by
  rw [setP] at e; obtain ⟨u, q1, j1, e⟩ := bind_inv e; obtain ⟨g1, g2⟩ := sz_want h j1; obtain ⟨k1, k2⟩ := sz_many (sz_sel d (sz_set d)) _ _ [] _ _ _ g2 e; have h3 : sumB (fun x => rl (selI x) + 8) [] = 0 := rfl; have hs := rl_set x; refine ⟨?_, k2⟩
  (try dsimp only at *); omega
theorem sz_var : Sz varP (fun v => rl (varI v) + 8) := fun r x r1 h e => by
 unfold varP at e; obtain ⟨u0, q0, j0, e⟩ := bind_inv e; obtain ⟨s, q1, j1, e⟩ := bind_inv e; obtain ⟨u, q2, j2, e⟩ := bind_inv e; obtain ⟨t, q3, j3, e⟩ := bind_inv e; obtain ⟨g0, gg⟩ := sz_want h j0; obtain ⟨g1, g2, g3⟩ := sz_name gg j1; obtain ⟨g4, g5⟩ := sz_want g3 j2; obtain ⟨g6, g7⟩ := sz_typ 24 _ _ _ g5 j3
 split at e
 ·rename_i hc
  have hl := isT_tl hc; obtain ⟨v, q4, j4, e⟩ := bind_inv e; obtain ⟨g8, g9⟩ := sz_val true 24 _ _ _ g7.tail j4
  injection e with e1 e2; subst e1; subst e2
  refine ⟨?_, g9⟩
  show rl (sgI 36 :: nmI s :: sgI 58 :: .sp 32 :: (typI t ++ .sp 32 :: sgI 61 :: .sp 32 :: valI v)) + 8 + _ ≤ _
  rw [rl_cons, rl_cons, rl_cons, rl_cons, rl_app, rl_cons, rl_cons, rl_cons, rl_nm, rl_sg, rl_sg, rl_sg, rl_sp]; (try dsimp only at *); omega
 ·injection e with e1 e2; subst e1; subst e2
  refine ⟨?_, g7⟩
  show rl (sgI 36 :: nmI s :: sgI 58 :: .sp 32 :: (typI t ++ [])) + 8 + _ ≤ _
  rw [rl_cons, rl_cons, rl_cons, rl_cons, List.append_nil, rl_nm, rl_sg, rl_sg, rl_sp]; (try dsimp only at *); omega
theorem isK_le (k : Nat) (r : List Tok) : r.tail.length ≤ r.length := by rw [List.length_tail]; omega
theorem rl_op (m : Bool) (s : List UInt8) (vs : List VD) (sub : List SL) (hs : s.length ≤ 32) : rl (opI ⟨m, s, vs, sub⟩) ≤ 41 + rl (parI (vs.map varI)) + rl (setI sub) := by
 show rl (nmI (if m then wMutation else wQuery) :: ((if s = [] then [] else [.sp 32, nmI s]) ++ parI (vs.map varI) ++ setI sub)) ≤ _
 have hw : (if m then wMutation else wQuery).length ≤ 8 := by cases m <;> decide
 rw [rl_cons, rl_app, rl_app, rl_nm]
 by_cases h : s = []
 ·rw [if_pos h, rl_nil]; omega
 ·rw [if_neg h, rl_cons, rl_cons, rl_nil, rl_nm, rl_sp]; omega
theorem sz_op : Sz opP (fun o => rl (opI o) + 8) := fun r x r1 h e => by
 unfold opP at e; obtain ⟨m, q1, j1, e⟩ := bind_inv e; obtain ⟨s, q2, j2, e⟩ := bind_inv e; obtain ⟨vs, q3, j3, e⟩ := bind_inv e; obtain ⟨sub, q4, j4, e⟩ := bind_inv e; obtain ⟨h1, h2⟩ : q1.length ≤ r.length ∧ GT q1 := by
  split at j1
  ·injection j1 with e1 e2; subst e1; subst e2; exact ⟨isK_le 0 r, h.tail⟩
  ·obtain ⟨u, r2, k1, k2⟩ := bind_inv j1; obtain ⟨g1, g2⟩ := sz_want h k1
   injection k2 with e1 e2; subst e1; subst e2; exact ⟨by omega, g2⟩
 obtain ⟨h3, h4, h5⟩ : s.length ≤ 32 ∧ q2.length ≤ q1.length ∧ GT q2 := by
  split at j2
  ·obtain ⟨g1, g2, g3⟩ := sz_name h2 j2; exact ⟨g1, by omega, g3⟩
  ·injection j2 with e1 e2; subst e1; subst e2; exact ⟨by simp, Nat.le_refl _, h2⟩
 obtain ⟨h6, h7⟩ : rl (parI (vs.map varI)) + 500 * q3.length ≤ 500 * q2.length ∧ GT q3 := by
  split at j3
  ·rename_i hc
   have hl := isS_tl hc; obtain ⟨k1, k2⟩ := sz_many sz_var _ _ [] _ _ _ h5.tail j3; have h3 : sumB (fun v => rl (varI v) + 8) [] = 0 := rfl; have hp := rl_par varI vs; exact ⟨by omega, k2⟩
  ·injection j3 with e1 e2; subst e1; subst e2
   exact ⟨by show 0 + _ ≤ _; omega, h5⟩
 obtain ⟨h8, h9⟩ := sz_set 24 _ _ _ h7 j4
 injection e with e1 e2; subst e1; subst e2
 have ho := rl_op m s vs sub h3; exact ⟨by (try dsimp only at *); omega, h9⟩
theorem sz_frag : Sz fragP (fun f => rl (frI f) + 8) := fun r x r1 h e => by
 unfold fragP at e
 split at e
 ·cases e
 ·obtain ⟨s, r2, h1, e⟩ := bind_inv e; obtain ⟨k1, k2, q1⟩ := sz_name h h1; obtain ⟨u, r3, h2, e⟩ := bind_inv e; obtain ⟨k3, q2⟩ := sz_want q1 h2; obtain ⟨o, r4, h3, e⟩ := bind_inv e; obtain ⟨k4, k5, q3⟩ := sz_name q2 h3; obtain ⟨sub, r5, h4, e⟩ := bind_inv e; obtain ⟨k6, q4⟩ := sz_set 24 _ _ _ q3 h4
  injection e with e1 e2; subst e1; subst e2
  refine ⟨?_, q4⟩
  show rl (nmI wFragment :: .sp 32 :: nmI s :: .sp 32 :: nmI wOn :: .sp 32 :: nmI o :: setI sub) + 8 + _ ≤ _
  rw [rl_cons, rl_cons, rl_cons, rl_cons, rl_cons, rl_cons, rl_cons, rl_nm, rl_nm, rl_nm, rl_nm, rl_sp]; have : wFragment.length = 8 := rfl; have : wOn.length = 2 := rfl
  (try dsimp only at *); omega
def szD (d : DC) : Nat := sumB (fun o => rl (opI o) + 8) d.ops + sumB (fun f => rl (frI f) + 8) d.frags
theorem sz_def (acc : DC) {r : List Tok} {d : DC} {r1 : List Tok} (h : GT r) (e : defP acc r = .ok d r1) : szD d + 500 * r1.length ≤ szD acc + 500 * r.length ∧ GT r1 := by
 have s1 : ∀ o : OP, sumB (fun o => rl (opI o) + 8) [o] = rl (opI o) + 8 := fun o => by simp [sumB]
 have s2 : ∀ o : FR, sumB (fun o => rl (frI o) + 8) [o] = rl (frI o) + 8 := fun o => by simp [sumB]
 unfold defP at e
 split at e
 ·obtain ⟨sub, r3, h2, e⟩ := bind_inv e; obtain ⟨k, q⟩ := sz_set 24 _ _ _ h h2
  injection e with e1 e2; subst e1; subst e2
  have ho := rl_op false [] [] sub (by simp); have hp : rl (parI (([] : List VD).map varI)) = 0 := rfl; refine ⟨?_, q⟩
  unfold szD; simp only; rw [sumB_app, s1]; (try dsimp only at *); omega
 ·split at e
  ·rename_i hc
   have hl := isT_tl hc; obtain ⟨f, r3, h2, e⟩ := bind_inv e; obtain ⟨k, q⟩ := sz_frag _ _ _ h.tail h2
   injection e with e1 e2; subst e1; subst e2
   refine ⟨?_, q⟩
   unfold szD; simp only; rw [sumB_app, s2]; (try dsimp only at *); omega
  ·obtain ⟨o, r3, h2, e⟩ := bind_inv e; obtain ⟨k, q⟩ := sz_op _ _ _ h h2
   injection e with e1 e2; subst e1; subst e2
   refine ⟨?_, q⟩
   unfold szD; simp only; rw [sumB_app, s1]; (try dsimp only at *); omega
theorem sz_doc : ∀ (n : Nat) (acc : DC) r d r1, GT r → docF n acc r = .ok d r1 → szD d + 500 * r1.length ≤ szD acc + 500 * r.length
 | 0, acc, r, d, r1, h, e => by cases e
 | n + 1, acc, r, d, r1, h, e => by
  rw [docF] at e; obtain ⟨d1, r2, h1, e⟩ := bind_inv e; obtain ⟨k1, k2⟩ := sz_def acc h h1
  split at e
  ·injection e with e1 e2; subst e1; subst e2; exact k1
  ·have := sz_doc n d1 r2 d r1 k2 e; omega
theorem docP_size {s : List UInt8} {d : DC} (h : docP s = .ok d) : (ren (docI d)).length ≤ 2000000 := by
 unfold docP at h
 cases ht : toks s with
 | bad a e => rw [ht] at h; cases h
 | ok ts =>
  rw [ht] at h; have h : (match docF (ts.length + 1) ⟨[], []⟩ ts with | .ok d _ => DR1.ok d | .bad a e => .bad a e) = .ok d := h
  cases hd : docF (ts.length + 1) ⟨[], []⟩ ts with
  | bad a e => rw [hd] at h; cases h
  | ok d1 r1 =>
   rw [hd] at h; injection h with h; subst h; have h1 := sz_doc _ ⟨[], []⟩ ts d1 r1 (toks_good ht) hd; have h2 := (toks_end ht).2; have h3 := sep_sum [.sp 32] (d1.ops.map opI ++ d1.frags.map frI); rw [sumB_app, sumB_map, sumB_map] at h3; have h4 := sumB_le (μ := fun t => rl (opI t) + rl [.sp 32]) (ν := fun t => rl (opI t) + 8) (fun t => by show rl (opI t) + 1 ≤ _; omega) d1.ops; have h6 := sumB_le (μ := fun t => rl (frI t) + rl [.sp 32]) (ν := fun t => rl (frI t) + 8) (fun t => by show rl (frI t) + 1 ≤ _; omega) d1.frags; have h5 : szD ⟨[], []⟩ = 0 := rfl; unfold szD at h1 h5
   show rl (sepI [.sp 32] (d1.ops.map opI ++ d1.frags.map frI)) ≤ _
   (try dsimp only at *); omega
end Go.Proofs.YtnkpoddbbdmipaaGreatDoor
