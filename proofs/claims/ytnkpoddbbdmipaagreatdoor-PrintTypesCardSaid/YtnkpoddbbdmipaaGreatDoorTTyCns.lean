/- . -/
import Derived.Test.YtnkpoddbbdmipaaGreatDoorTTyPns
namespace Go.Proofs.YtnkpoddbbdmipaaGreatDoor
set_option linter.unusedVariables false
set_option linter.unusedSimpArgs false
def rl (l : List It) : Nat := (ren l).length
theorem rl_nil : rl [] = 0 := rfl
theorem rl_app (a b : List It) : rl (a ++ b) = rl a + rl b := by unfold rl; rw [ren_app, List.length_append]
theorem rl_cons (i : It) (b : List It) : rl (i :: b) = i.src.length + rl b := by unfold rl; rw [ren_cons, List.length_append]
theorem rl_nm (s : List UInt8) : (nmI s).src.length = s.length := rfl
theorem rl_sg (c : UInt8) : (sgI c).src.length = 1 := rfl
theorem rl_sp (c : UInt8) : (It.sp c).src.length = 1 := rfl
def sumB {α : Type} (μ : α → Nat) : List α → Nat
 | [] => 0
 | x :: l => μ x + sumB μ l
theorem sumB_app {α : Type} (μ : α → Nat) : ∀ (l m : List α), sumB μ (l ++ m) = sumB μ l + sumB μ m
 | [], m => by simp [sumB]
 | x :: l, m => by show μ x + sumB μ (l ++ m) = μ x + sumB μ l + sumB μ m; rw [sumB_app μ l m]; omega
theorem sumB_le {α : Type} {μ ν : α → Nat} (h : ∀ x, μ x ≤ ν x) : ∀ l : List α, sumB μ l ≤ sumB ν l
 | [] => Nat.le_refl _
 | x :: l => Nat.add_le_add (h x) (sumB_le h l)
theorem sumB_map {α β : Type} (μ : β → Nat) (f : α → β) : ∀ l : List α, sumB μ (l.map f) = sumB (fun x => μ (f x)) l
 | [] => rfl
 | x :: l => by show μ (f x) + sumB μ (l.map f) = _; rw [sumB_map μ f l]; rfl
theorem flat_sum {α : Type} (f : α → List It) : ∀ l : List α, rl (l.flatMap f) = sumB (fun x => rl (f x)) l
 | [] => rfl
 | x :: l => by rw [List.flatMap_cons, rl_app, flat_sum f l]; rfl
theorem sep_sum (g : List It) (l : List (List It)) : rl (sepI g l) ≤ sumB (fun b => rl b + rl g) l := by
 cases l with
 | nil => exact Nat.le_refl _
 | cons a l =>
  show rl (a ++ l.flatMap fun b => g ++ b) ≤ (rl a + rl g) + sumB _ l
  rw [rl_app, flat_sum]; have : sumB (fun x => rl (g ++ x)) l = sumB (fun b => rl b + rl g) l := by
   congr 1; funext x; rw [rl_app]; omega
  omega
theorem isT_tl {s : List UInt8} {r : List Tok} (h : isT s r = true) : r.tail.length + 1 = r.length := by
 cases r with
 | nil => simp [isT, isS, isW] at h
 | cons t r => rfl
theorem sz_name {r : List Tok} {x : List UInt8} {r1 : List Tok} (h : GT r) (e : nameP r = .ok x r1) : x.length ≤ 32 ∧ r1.length + 1 = r.length ∧ GT r1 := by
 obtain ⟨h1, h2⟩ := gd_name r x r1 h e; refine ⟨h1.len, ?_, h2⟩
 cases r with
 | nil => cases e
 | cons t r =>
  have e : (if t.kind = 1 then PR.ok t.text r else .bad t.at_ 4) = .ok x r1 := e
  split at e
  ·injection e with e1 e2; subst e2; rfl
  ·cases e
theorem sz_want {s : List UInt8} {r : List Tok} {u : Unit} {r1 : List Tok} (h : GT r) (e : wantP s r = .ok u r1) : r1.length + 1 = r.length ∧ GT r1 := by
 refine ⟨?_, (gd_want s r u r1 h e).2⟩
 unfold wantP at e
 split at e
 ·rename_i hc
  injection e with e1 e2; subst e2; exact isT_tl hc
 ·cases e
def Sz {α : Type} (f : List Tok → PR α) (μ : α → Nat) : Prop := ∀ r x r1, GT r → f r = .ok x r1 → μ x + 500 * r1.length ≤ 500 * r.length ∧ GT r1
theorem sz_any {α : Type} {f : List Tok → PR α} {μ : α → Nat} (hf : Sz f μ) (c : List UInt8) : ∀ (n : Nat) (acc : List α) r l r1, GT r → anyP f c n acc r = .ok l r1 → sumB μ l + 500 * r1.length + 500 ≤ sumB μ acc + 500 * r.length ∧ GT r1
 | 0, acc, r, l, r1, h, e => by cases e
 | n + 1, acc, r, l, r1, h, e => by
  rw [anyP] at e
  split at e
  ·rename_i hc
   have := isT_tl hc
   injection e with e1 e2; subst e1; subst e2; exact ⟨by omega, h.tail⟩
  ·obtain ⟨y, r2, h1, h2⟩ := bind_inv e; obtain ⟨k1, k2⟩ := hf r y r2 h h1; obtain ⟨k3, k4⟩ := sz_any hf c n _ r2 l r1 k2 h2; rw [sumB_app] at k3; have : sumB μ [y] = μ y := by simp [sumB]
   exact ⟨by omega, k4⟩
theorem sz_many {α : Type} {f : List Tok → PR α} {μ : α → Nat} (hf : Sz f μ) (c : List UInt8) : ∀ (n : Nat) (acc : List α) r l r1, GT r → manyP f c n acc r = .ok l r1 → sumB μ l + 500 * r1.length + 500 ≤ sumB μ acc + 500 * r.length ∧ GT r1
 | 0, acc, r, l, r1, h, e => by cases e
 | n + 1, acc, r, l, r1, h, e => by
  rw [manyP] at e; obtain ⟨y, r2, h1, h2⟩ := bind_inv e; obtain ⟨k1, k2⟩ := hf r y r2 h h1; have hy : sumB μ [y] = μ y := by simp [sumB]
  split at h2
  ·rename_i hc
   have := isT_tl hc
   injection h2 with e1 e2; subst e1; subst e2
   rw [sumB_app]; exact ⟨by omega, k2.tail⟩
  ·obtain ⟨k3, k4⟩ := sz_many hf c n _ r2 l r1 k2 h2; rw [sumB_app] at k3; exact ⟨by omega, k4⟩
theorem num_rl {n : Int} (h : NumOk n) : (numS n).length ≤ 20 := by
 have := digS_len 17 n.natAbs (by unfold NumOk at h; omega); unfold numS sgn
 split <;> simp <;> omega
theorem esc_rl : ∀ l : List UInt8, (escS l).length ≤ 2 * l.length
 | [] => by simp [escS]
 | c :: l => by
  have := esc_rl l; have h1 : (esc1 c).length ≤ 2 := by
    unfold esc1; repeat' split
    all_goals simp
  rw [escS_cons, List.length_append, List.length_cons]; omega
theorem zip_map (ps : List (List UInt8 × VT)) : List.zipWith pairI (ps.map (·.1)) ((ps.map (·.2)).map valI) = ps.map fun p => pairI p.1 (valI p.2) := by
 induction ps with
 | nil => rfl
 | cons p ps ih => simp only [List.map_cons, List.zipWith_cons_cons, ih]
theorem rl_gap : rl gapI = 2 := rfl
theorem sz_val (fx : Bool) : ∀ d, Sz (valueP fx d) (fun v => rl (valI v) + 8)
 | 0 => fun r x r1 h e => by cases e
 | d + 1 => fun r x r1 h e => by
  have ih := sz_val fx d; have hgd := (gd_val fx (d + 1) r x r1 h e).2; refine ⟨?_, hgd⟩
  cases r with
  | nil => cases e
  | cons t r =>
   rw [valueP, vB_cons] at e; have ht := h t (by simp); have hr : GT r := fun u hu => h u (by simp [hu])
   simp only [List.length_cons]
   split at e
   ·rename_i hk
    injection e with e1 e2; subst e1; subst e2
    have := num_rl (ht.2.1 hk); rw [valI_eq, if_pos rfl, rl_cons, rl_nil]
    show (numS t.n).length + 0 + 8 + _ ≤ _; (try dsimp only at *); omega
   split at e
   ·rename_i hk
    injection e with e1 e2; subst e1; subst e2
    have h1 := esc_rl t.text; have h2 := ht.2.2 hk; rw [valI_eq, if_neg (by decide), if_pos (by decide), rl_cons, rl_nil]
    show (34 :: (escS t.text ++ [34])).length + 0 + 8 + _ ≤ _
    simp only [List.length_cons, List.length_append, List.length_nil]; (try dsimp only at *); omega
   split at e
   ·injection e with e1 e2; subst e1; subst e2
    show 4 + 8 + _ ≤ _; (try dsimp only at *); omega
   split at e
   ·injection e with e1 e2; subst e1; subst e2
    show 5 + 8 + _ ≤ _; (try dsimp only at *); omega
   split at e
   ·injection e with e1 e2; subst e1; subst e2
    show 4 + 8 + _ ≤ _; (try dsimp only at *); omega
   split at e
   ·rename_i hk
    injection e with e1 e2; subst e1; subst e2
    have := (ht.1 hk).len; rw [valI_eq, if_neg (by decide), if_neg (by decide), if_neg (by decide), if_pos rfl, rl_cons, rl_nil, rl_nm]; (try dsimp only at *); omega
   split at e
   ·obtain ⟨s, r2, k1, k2⟩ := bind_inv e; obtain ⟨g1, g2, g3⟩ := sz_name hr k1
    injection k2 with e1 e2; subst e1; subst e2
    rw [valI_eq, if_neg (by decide), if_neg (by decide), if_neg (by decide), if_neg (by decide), if_pos rfl, rl_cons, rl_cons, rl_nil, rl_nm, rl_sg]; (try dsimp only at *); omega
   split at e
   ·obtain ⟨vs, r2, k1, k2⟩ := bind_inv e; obtain ⟨g1, g2⟩ := sz_any ih _ _ [] r vs r2 hr k1
    injection k2 with e1 e2; subst e1; subst e2
    have h1 := sep_sum gapI (vs.map valI); rw [sumB_map, rl_gap] at h1; have h2 := sumB_le (μ := fun v => rl (valI v) + 2) (ν := fun v => rl (valI v) + 8) (fun v => by omega) vs; have h3 : sumB (fun v => rl (valI v) + 8) [] = 0 := rfl; rw [valI_eq, if_neg (by decide), if_neg (by decide), if_neg (by decide), if_neg (by decide), if_neg (by decide), if_pos rfl, rl_cons, rl_app, rl_cons, rl_nil, rl_sg, rl_sg]; (try dsimp only at *); omega
   split at e
   ·obtain ⟨ps, r2, k1, k2⟩ := bind_inv e; have hpair : Sz (pairP (valueP fx d)) (fun p => rl (pairI p.1 (valI p.2)) + 8) := fun r x r1 h e => by
     obtain ⟨s, q1, j1, e⟩ := bind_inv e; obtain ⟨u, q2, j2, e⟩ := bind_inv e; obtain ⟨v, q3, j3, e⟩ := bind_inv e
     injection e with e1 e2; subst e1; subst e2
     obtain ⟨g1, g2, g3⟩ := sz_name h j1; obtain ⟨g4, g5⟩ := sz_want g3 j2; obtain ⟨g6, g7⟩ := ih _ _ _ g5 j3; refine ⟨?_, g7⟩
     show rl (nmI s :: sgI 58 :: .sp 32 :: valI v) + 8 + _ ≤ _
     rw [rl_cons, rl_cons, rl_cons, rl_nm, rl_sg, rl_sp]; (try dsimp only at *); omega
    obtain ⟨g1, g2⟩ := sz_any hpair _ _ [] r ps r2 hr k1
    injection k2 with e1 e2; subst e1; subst e2
    have h1 := sep_sum gapI (ps.map fun p => pairI p.1 (valI p.2)); rw [sumB_map, rl_gap] at h1; have h2 := sumB_le (μ := fun p : List UInt8 × VT => rl (pairI p.1 (valI p.2)) + 2) (ν := fun p => rl (pairI p.1 (valI p.2)) + 8) (fun v => by omega) ps; have h3 : sumB (fun p : List UInt8 × VT => rl (pairI p.1 (valI p.2)) + 8) [] = 0 := rfl; rw [valI_eq, if_neg (by decide), if_neg (by decide), if_neg (by decide), if_neg (by decide), if_neg (by decide), if_neg (by decide), if_pos rfl, zip_map, rl_cons, rl_app, rl_cons, rl_nil, rl_sg, rl_sg]; (try dsimp only at *); omega
   ·cases e
theorem rl_bang (b : Bool) : rl (bangI b) ≤ 1 := by cases b <;> decide
theorem sz_bang (mk : Bool → TR) {r : List Tok} {x : TR} {r1 : List Tok} (h : GT r) (e : bangP mk r = .ok x r1) : ∃ b, x = mk b ∧ r1.length ≤ r.length ∧ GT r1 := by
 unfold bangP at e
 split at e
 ·injection e with e1 e2; subst e1; subst e2; exact ⟨true, rfl, by rw [List.length_tail]; omega, h.tail⟩
 ·injection e with e1 e2; subst e1; subst e2; exact ⟨false, rfl, Nat.le_refl _, h⟩
theorem sz_typ : ∀ d, Sz (typP d) (fun t => rl (typI t) + 8)
 | 0 => fun r x r1 h e => by cases e
 | d + 1 => fun r x r1 h e => by
  rw [typP] at e
  split at e
  ·rename_i hc
   have hl := isT_tl hc; obtain ⟨t, q1, j1, e⟩ := bind_inv e; obtain ⟨u, q2, j2, e⟩ := bind_inv e; obtain ⟨g1, g2⟩ := sz_typ d _ _ _ h.tail j1; obtain ⟨g3, g4⟩ := sz_want g2 j2; obtain ⟨b, rfl, g5, g6⟩ := sz_bang _ g4 e; refine ⟨?_, g6⟩
   have hb := rl_bang b
   show rl (typI (.ls t b)) + 8 + _ ≤ _
   rw [typI, rl_cons, rl_app, rl_cons, rl_sg, rl_sg]; (try dsimp only at *); omega
  ·obtain ⟨s, q1, j1, e⟩ := bind_inv e; obtain ⟨g1, g2, g3⟩ := sz_name h j1; obtain ⟨b, rfl, g5, g6⟩ := sz_bang _ g3 e; refine ⟨?_, g6⟩
   have hb := rl_bang b
   show rl (typI (.nm s b)) + 8 + _ ≤ _
   rw [typI, rl_cons, rl_nm]; (try dsimp only at *); omega
theorem sz_in : Sz inP (fun i => rl (inI i) + 8) := fun r x r1 h e => by
 unfold inP at e; obtain ⟨s, q1, j1, e⟩ := bind_inv e; obtain ⟨u, q2, j2, e⟩ := bind_inv e; obtain ⟨t, q3, j3, e⟩ := bind_inv e; obtain ⟨g1, g2, g3⟩ := sz_name h j1; obtain ⟨g4, g5⟩ := sz_want g3 j2; obtain ⟨g6, g7⟩ := sz_typ 24 _ _ _ g5 j3
 split at e
 ·rename_i hc
  have hl := isT_tl hc; obtain ⟨v, q4, j4, e⟩ := bind_inv e; obtain ⟨g8, g9⟩ := sz_val true 24 _ _ _ g7.tail j4
  injection e with e1 e2; subst e1; subst e2
  refine ⟨?_, g9⟩
  show rl (nmI s :: sgI 58 :: .sp 32 :: (typI t ++ .sp 32 :: sgI 61 :: .sp 32 :: valI v)) + 8 + _ ≤ _
  rw [rl_cons, rl_cons, rl_cons, rl_app, rl_cons, rl_cons, rl_cons, rl_nm, rl_sg, rl_sg, rl_sp]; (try dsimp only at *); omega
 ·injection e with e1 e2; subst e1; subst e2
  refine ⟨?_, g7⟩
  show rl (nmI s :: sgI 58 :: .sp 32 :: (typI t ++ [])) + 8 + _ ≤ _
  rw [rl_cons, rl_cons, rl_cons, List.append_nil, rl_nm, rl_sg, rl_sp]; (try dsimp only at *); omega
theorem rl_par {α : Type} (f : α → List It) (l : List α) : rl (parI (l.map f)) ≤ 2 + sumB (fun x => rl (f x) + 8) l := by
 unfold parI
 split
 ·rw [rl_nil]; (try dsimp only at *); omega
 ·have h1 := sep_sum gapI (l.map f); rw [sumB_map, rl_gap] at h1; have h2 := sumB_le (μ := fun x => rl (f x) + 2) (ν := fun x => rl (f x) + 8) (fun v => by omega) l; rw [rl_cons, rl_app, rl_cons, rl_nil, rl_sg, rl_sg]; (try dsimp only at *); omega
theorem sz_fd : Sz fdP (fun f => rl (fdI f) + 8) := fun r x r1 h e => by
 unfold fdP at e; obtain ⟨s, q1, j1, e⟩ := bind_inv e; obtain ⟨gs, q2, j2, e⟩ := bind_inv e; obtain ⟨u, q3, j3, e⟩ := bind_inv e; obtain ⟨t, q4, j4, e⟩ := bind_inv e; obtain ⟨g1, g2, g3⟩ := sz_name h j1; have hg : sumB (fun i => rl (inI i) + 8) gs + 500 * q2.length ≤ 500 * q1.length ∧ GT q2 := by
  split at j2
  ·rename_i hc
   have hl := isT_tl hc; obtain ⟨k1, k2⟩ := sz_many sz_in _ _ [] _ _ _ g3.tail j2; have h3 : sumB (fun i => rl (inI i) + 8) [] = 0 := rfl; exact ⟨by (try dsimp only at *); omega, k2⟩
  ·injection j2 with e1 e2; subst e1; subst e2
   exact ⟨by show 0 + _ ≤ _; omega, g3⟩
 obtain ⟨hg1, hg2⟩ := hg; obtain ⟨g4, g5⟩ := sz_want hg2 j3; obtain ⟨g6, g7⟩ := sz_typ 24 _ _ _ g5 j4
 injection e with e1 e2; subst e1; subst e2
 refine ⟨?_, g7⟩
 have hp := rl_par inI gs
 show rl ((nmI s :: parI (gs.map inI)) ++ sgI 58 :: .sp 32 :: (typI t ++ [])) + 8 + _ ≤ _
 rw [rl_app, rl_cons, rl_cons, rl_cons, List.append_nil, rl_nm, rl_sg, rl_sp]; (try dsimp only at *); omega
theorem sz_plain : Sz plainP (fun s => s.length + 8) := fun r x r1 h e => by
 unfold plainP at e
 split at e
 ·cases e
 ·obtain ⟨g1, g2, g3⟩ := sz_name h e; exact ⟨by show x.length + 8 + _ ≤ _; omega, g3⟩
theorem sz_more (c : List UInt8) : ∀ (n : Nat) (acc : List (List UInt8)) r l r1, GT r → moreP c n acc r = .ok l r1 → sumB (fun s => s.length + 8) l + 500 * r1.length ≤ sumB (fun s => s.length + 8) acc + 500 * r.length ∧ GT r1
 | 0, acc, r, l, r1, h, e => by cases e
 | n + 1, acc, r, l, r1, h, e => by
  rw [moreP] at e
  split at e
  ·rename_i hc
   have hl := isT_tl hc; obtain ⟨y, r2, h1, h2⟩ := bind_inv e; obtain ⟨g1, g2, g3⟩ := sz_name h.tail h1; obtain ⟨k3, k4⟩ := sz_more c n _ r2 l r1 g3 h2; rw [sumB_app] at k3; have : sumB (fun s : List UInt8 => s.length + 8) [y] = y.length + 8 := by simp [sumB]
   exact ⟨by (try dsimp only at *); omega, k4⟩
  ·injection e with e1 e2; subst e1; subst e2; exact ⟨Nat.le_refl _, h⟩
theorem sz_names (c : List UInt8) : Sz (namesP c) (fun l => sumB (fun s => s.length + 8) l) := fun r x r1 h e => by
 unfold namesP at e; obtain ⟨y, r2, h1, h2⟩ := bind_inv e; have hr : GT (if isT c r then r.tail else r) ∧ (if isT c r then r.tail else r).length ≤ r.length := by
  split
  ·exact ⟨h.tail, by rw [List.length_tail]; omega⟩
  ·exact ⟨h, Nat.le_refl _⟩
 obtain ⟨g1, g2, g3⟩ := sz_name hr.1 h1; obtain ⟨k3, k4⟩ := sz_more c _ [y] r2 x r1 g3 h2; have : sumB (fun s : List UInt8 => s.length + 8) [y] = y.length + 8 := by simp [sumB]
 have := hr.2; exact ⟨by show sumB _ x + _ ≤ _; omega, k4⟩
theorem rl_names (g : List It) (hg : rl g ≤ 3) (l : List (List UInt8)) : rl (namI g l) ≤ sumB (fun s => s.length + 8) l := by
 unfold namI; have h1 := sep_sum g (l.map fun s => [nmI s]); rw [sumB_map] at h1; have h2 := sumB_le (μ := fun s : List UInt8 => rl [nmI s] + rl g) (ν := fun s => s.length + 8) (fun s => by show rl [nmI s] + rl g ≤ _; rw [rl_cons, rl_nil, rl_nm]; omega) l
 (try dsimp only at *); omega
theorem rl_br (fs : List FD) : rl (brI (fs.flatMap fun f => .sp 32 :: fdI f)) ≤ 4 + sumB (fun f => rl (fdI f) + 8) fs := by
 unfold brI; have h1 := flat_sum (fun f => It.sp 32 :: fdI f) fs; have h2 := sumB_le (μ := fun f => rl (It.sp 32 :: fdI f)) (ν := fun f => rl (fdI f) + 8) (fun f => by show rl (It.sp 32 :: fdI f) ≤ _; rw [rl_cons, rl_sp]; omega) fs; rw [rl_cons, rl_cons, rl_app, rl_cons, rl_cons, rl_nil, rl_sp, rl_sg, rl_sg]; (try dsimp only at *); omega
theorem sz_obj (k : Nat) (s : List UInt8) (l : List (List UInt8)) {r : List Tok} {x : TD} {r1 : List Tok} (h : GT r) (e : objP k s l r = .ok x r1) : ∃ fs, x = ⟨k, s, fs, l⟩ ∧ sumB (fun f => rl (fdI f) + 8) fs + 500 * r1.length + 1000 ≤ 500 * r.length ∧ GT r1 := by
 unfold objP at e; obtain ⟨u, q1, j1, e⟩ := bind_inv e; obtain ⟨fs, q2, j2, e⟩ := bind_inv e; obtain ⟨g1, g2⟩ := sz_want h j1; obtain ⟨k1, k2⟩ := sz_many sz_fd _ _ [] _ _ _ g2 j2; have h3 : sumB (fun f => rl (fdI f) + 8) [] = 0 := rfl
 injection e with e1 e2; subst e1; subst e2
 exact ⟨fs, rfl, by (try dsimp only at *); omega, k2⟩
theorem sumB_of (l : List IN) : sumB (fun f => rl (fdI f) + 8) (l.map FD.of) = sumB (fun i => rl (inI i) + 8) l := by
 rw [sumB_map]; congr 1
theorem sz_td : Sz tdP (fun t => rl (tdI t) + 8) := fun r x r1 h e => by
 have hgd := gd_td r x r1 h e; refine ⟨?_, hgd.2⟩
 unfold tdP at e
 split at e
 ·cases e
 ·rename_i hk0
  have hkl := kindN_len hk0; have hk5 : kindN r ≤ 5 := by
    unfold kindN; repeat' split
    all_goals omega
  obtain ⟨s, r2, h1, e⟩ := bind_inv e; obtain ⟨g1, g2, g3⟩ := sz_name h.tail h1; have hsp3 : ∀ c : UInt8, rl [.sp 32, sgI c, .sp 32] ≤ 3 := fun c => Nat.le_refl 3
  unfold bodyP at e
  split at e
  ·unfold unionP at e; obtain ⟨u, q1, j1, e⟩ := bind_inv e; obtain ⟨l, q2, j2, e⟩ := bind_inv e; obtain ⟨g4, g5⟩ := sz_want g3 j1; obtain ⟨k1, k2⟩ := sz_names _ _ _ _ g5 j2
   injection e with e1 e2; subst e1; subst e2
   have hn := rl_names [.sp 32, sgI 124, .sp 32] (hsp3 _) l
   show rl (nmI wUnion :: .sp 32 :: nmI s :: .sp 32 :: sgI 61 :: .sp 32 :: namI [.sp 32, sgI 124, .sp 32] l) + 8 + _ ≤ _
   rw [rl_cons, rl_cons, rl_cons, rl_cons, rl_cons, rl_cons, rl_nm, rl_nm, rl_sp, rl_sg]; have : wUnion.length = 5 := rfl
   (try dsimp only at *); omega
  ·split at e
   ·unfold enumP at e; obtain ⟨u, q1, j1, e⟩ := bind_inv e; obtain ⟨l, q2, j2, e⟩ := bind_inv e; obtain ⟨g4, g5⟩ := sz_want g3 j1; obtain ⟨k1, k2⟩ := sz_many sz_plain _ _ [] _ _ _ g5 j2; have h3 : sumB (fun s : List UInt8 => s.length + 8) [] = 0 := rfl
    injection e with e1 e2; subst e1; subst e2
    have hn := rl_names [.sp 32] (by decide) l
    show rl (nmI wEnum :: .sp 32 :: nmI s :: .sp 32 :: sgI 123 :: .sp 32 :: (namI [.sp 32] l ++ [.sp 32, sgI 125])) + 8 + _ ≤ _
    rw [rl_cons, rl_cons, rl_cons, rl_cons, rl_cons, rl_cons, rl_app, rl_cons, rl_cons, rl_nil, rl_nm, rl_nm, rl_sp, rl_sg, rl_sg]; have : wEnum.length = 4 := rfl
    (try dsimp only at *); omega
   ·split at e
    ·unfold inputP at e; obtain ⟨u, q1, j1, e⟩ := bind_inv e; obtain ⟨l, q2, j2, e⟩ := bind_inv e; obtain ⟨g4, g5⟩ := sz_want g3 j1; obtain ⟨k1, k2⟩ := sz_many sz_in _ _ [] _ _ _ g5 j2; have h3 : sumB (fun i => rl (inI i) + 8) [] = 0 := rfl
     injection e with e1 e2; subst e1; subst e2
     have hb := rl_br (l.map FD.of); rw [sumB_of] at hb
     show rl (nmI wInput :: .sp 32 :: nmI s :: ([] ++ brI ((l.map FD.of).flatMap fun f => .sp 32 :: fdI f))) + 8 + _ ≤ _
     rw [rl_cons, rl_cons, rl_cons, List.nil_append, rl_nm, rl_nm, rl_sp]; have : wInput.length = 5 := rfl
     (try dsimp only at *); omega
    ·rename_i n3 n4 n5
     split at e
     ·rename_i hb
      rw [Bool.and_eq_true] at hb; have hl1 := isT_tl hb.2; have hk1 : kindN r = 1 := of_decide_eq_true hb.1; obtain ⟨l, q1, j1, e⟩ := bind_inv e; obtain ⟨k1, k2⟩ := sz_names _ _ _ _ g3.tail j1; obtain ⟨fs, rfl, k3, k4⟩ := sz_obj _ _ _ k2 e; have hn := rl_names [.sp 32, sgI 38, .sp 32] (hsp3 _) l; have hbr := rl_br fs; rw [hk1]; have hle : rl (tdI ⟨1, s, fs, l⟩) ≤ rl (nmI wType :: .sp 32 :: nmI s :: (.sp 32 :: nmI wImplements :: .sp 32 :: namI [.sp 32, sgI 38, .sp 32] l ++ brI (fs.flatMap fun f => .sp 32 :: fdI f))) := by
       rw [tdI_eq, if_neg (by decide), if_neg (by decide), if_pos rfl]; simp only [rl_cons, rl_app]
       split
       ·simp only [rl_cons, rl_app]; (try dsimp only at *); omega
       ·rw [rl_nil]; (try dsimp only at *); omega
      refine Nat.le_trans (Nat.add_le_add_right (Nat.add_le_add_right hle 8) _) ?_
      rw [rl_cons, rl_cons, rl_cons, List.cons_append, List.cons_append, List.cons_append, rl_cons, rl_cons, rl_cons, rl_app, rl_nm, rl_nm, rl_nm, rl_sp]; have : wType.length = 4 := rfl; have : wImplements.length = 10 := rfl
      (try dsimp only at *); omega
     ·obtain ⟨fs, rfl, k3, k4⟩ := sz_obj _ _ _ g3 e; have hbr := rl_br fs; have hle : rl (tdI ⟨kindN r, s, fs, []⟩) ≤ 9 + (1 + (s.length + rl (brI (fs.flatMap fun f => .sp 32 :: fdI f)))) := by
       rw [tdI_eq, if_neg n3, if_neg n4]; have hw : (if kindN r = 1 then wType else if kindN r = 2 then wInterface else wInput).length ≤ 9 := by
        split
        ·decide
        ·split <;> decide
       rw [if_neg (show ¬ (kindN r = 1 ∧ ([] : List (List UInt8)) ≠ []) from fun h => h.2 rfl), List.nil_append, rl_cons, rl_cons, rl_cons, rl_nm, rl_nm, rl_sp]; (try dsimp only at *); omega
      refine Nat.le_trans (Nat.add_le_add_right (Nat.add_le_add_right hle 8) _) ?_
      (try dsimp only at *); omega
theorem sz_tys : ∀ (n : Nat) (acc : List TD) r l r1, GT r → tysF n acc r = .ok l r1 → sumB (fun t => rl (tdI t) + 8) l + 500 * r1.length ≤ sumB (fun t => rl (tdI t) + 8) acc + 500 * r.length
 | 0, acc, r, l, r1, h, e => by cases e
 | n + 1, acc, r, l, r1, h, e => by
  rw [tysF] at e; obtain ⟨y, r2, h1, h2⟩ := bind_inv e; obtain ⟨k1, k2⟩ := sz_td r y r2 h h1; have hy : sumB (fun t => rl (tdI t) + 8) [y] = rl (tdI y) + 8 := by simp [sumB]
  split at h2
  ·injection h2 with e1 e2; subst e1; subst e2
   rw [sumB_app]; (try dsimp only at *); omega
  ·have k3 := sz_tys n _ r2 l r1 k2 h2; rw [sumB_app] at k3; (try dsimp only at *); omega
theorem tysP_size {s : List UInt8} {l : List TD} (h : tysP s = .ok l) : (ren (tysI l)).length ≤ 2000000 := by
 unfold tysP at h
 cases ht : toks s with
 | bad a e => rw [ht] at h; cases h
 | ok ts =>
  rw [ht] at h; have h : (match tysF (ts.length + 1) [] ts with | .ok d _ => TR1.ok d | .bad a e => .bad a e) = .ok l := h
  cases hd : tysF (ts.length + 1) [] ts with
  | bad a e => rw [hd] at h; cases h
  | ok d1 r1 =>
   rw [hd] at h; injection h with h; subst h; have h1 := sz_tys _ [] ts d1 r1 (toks_good ht) hd; have h2 := (toks_end ht).2; have h3 := sep_sum [.sp 32] (d1.map tdI); rw [sumB_map] at h3; have h4 := sumB_le (μ := fun t => rl (tdI t) + rl [.sp 32]) (ν := fun t => rl (tdI t) + 8) (fun t => by show rl (tdI t) + 1 ≤ _; omega) d1; have h5 : sumB (fun t => rl (tdI t) + 8) [] = 0 := rfl
   show rl (sepI [.sp 32] (d1.map tdI)) ≤ _
   (try dsimp only at *); omega
end Go.Proofs.YtnkpoddbbdmipaaGreatDoor
