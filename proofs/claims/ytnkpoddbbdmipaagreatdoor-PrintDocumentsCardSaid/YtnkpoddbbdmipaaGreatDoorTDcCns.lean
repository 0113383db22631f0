/- . -/
import Derived.Test.YtnkpoddbbdmipaaGreatDoorTDcPpd
import Derived.Test.YtnkpoddbbdmipaaGreatDoorTDcRhx
import Derived.Test.YtnkpoddbbdmipaaGreatDoorTDcPng
namespace Go.Proofs.YtnkpoddbbdmipaaGreatDoor
open Go Go.RowKit
open Go.Lib (hid)
set_option linter.unusedVariables false
set_option linter.unusedSimpArgs false
def awkT8 : List UInt8 := [123, 97, 58, 98, 40, 99, 58, 91, 49, 44, 50, 93, 41, 46, 46, 46, 70, 125]
def awkD8 : DC := ⟨[⟨false, [], [], [.mk 1 [97] [98] [] [⟨[99], .mk 5 0 [] [] [.mk 1 1 [] [] [], .mk 1 2 [] [] []]⟩] [] [], .mk 2 [] [70] [] [] [] []]⟩], []⟩
def awkP8 : List UInt8 := [113, 117, 101, 114, 121, 32, 123, 32, 97, 58, 32, 98, 40, 99, 58, 32, 91, 49, 44, 32, 50, 93, 41, 32, 46, 46, 46, 70, 32, 125]
set_option maxRecDepth 100000 in
theorem awk8_doc : docP awkT8 = .ok awkD8 := by kernel_rfl
set_option maxRecDepth 100000 in
theorem awk8_text : ren (docI awkD8) = awkP8 := by kernel_rfl
set_option maxRecDepth 100000 in
set_option maxHeartbeats 4000000 in
theorem awake08 (w : World) (ht : Tab w) : Calls Tryz.prog 11 #[] w fun e w' => e = .returned (.bool true) ∧ Only (fun _ => False) w w' := by
 have T := hid (fdocument_any ⟨awkT8.toArray⟩ w (by unfold maxLen; decide)); rw [show (⟨awkT8.toArray⟩ : ByteArray).data.toList = awkT8 from rfl, awk8_doc] at T; have HT := hid ht; clear ht
 go_enter Tryz.func11, Tryz.ntmps11
 go_wp2_with fail
 refine T.out.mono ?_
 rintro e w1 ⟨a1, c1, a2, c2, rfl, hd, ho⟩; have hld : awkD8.ops.length = 1 := rfl; have hlf : awkD8.frags.length = 0 := rfl; rw [hld, hlf] at *; obtain ⟨wA, hwA⟩ := eX (w1.alloc (.cells #[.slice a1 1 c1, .slice a2 0 c2] 26)); have oa : Only (fun _ => False) w1 wA := by rw [← hwA]; exact (Only.refl _ w1).alloc _
 have hbx := heap_new w1 (.cells #[.slice a1 1 c1, .slice a2 0 c2] 26); rw [hwA] at hbx; have J := hid (ppD_any awkD8 (docP_good awk8_doc).1 _ wA _ _ (CellsAt.only oa (fun _ _ h => h) _ _ hd) (HT.out.still (ho.trans oa)) (by rw [awk8_text]; decide)); rw [awk8_text] at J; obtain ⟨B, hB⟩ := eX (w1.heap.size); rw [hB] at hbx; obtain ⟨q0, q1, -⟩ := boxN2 hbx; have HO := hid (ho.trans oa); have HWA := hid hwA; have HB := hid hB; clear hd ho T hld hlf oa hwA hB hbx
 go_upto_region 2 with (fail)
 rw [HB.out, HWA.out]
 go_wp2_with fail
 refine J.out.mono ?_
 rintro e w2 ⟨rfl, o2⟩; have HO2 := hid (HO.out.trans o2); clear o2 q0 q1
 go_wp2_with fail
 go_ret
 exact ⟨by rfl, HO2.out⟩
def rl (l : List It) : Nat := (ren l).length
theorem rl_nil : rl [] = 0 := rfl
theorem rl_app (a b : List It) : rl (a ++ b) = rl a + rl b := by unfold rl; rw [ren_app, List.length_append]
theorem rl_cons (i : It) (b : List It) : rl (i :: b) = i.src.length + rl b := by unfold rl; rw [ren_cons, List.length_append]
theorem rl_nm (s : List UInt8) : (nmI s).src.length = s.length := rfl
theorem rl_sg (c : UInt8) : (sgI c).src.length = 1 := rfl
theorem rl_sp (c : UInt8) : (It.sp c).src.length = 1 := rfl
def sumB {α : Type} (μ : α → Nat) : List α → Nat
 | [] => 0
 | x :: l => μ x + sumB μ l
theorem sumB_app {α : Type} (μ : α → Nat) : ∀ (l m : List α), sumB μ (l ++ m) = sumB μ l + sumB μ m
 | [], m => by simp [sumB]
 | x :: l, m => by show μ x + sumB μ (l ++ m) = μ x + sumB μ l + sumB μ m; rw [sumB_app μ l m]; omega
theorem sumB_le {α : Type} {μ ν : α → Nat} (h : ∀ x, μ x ≤ ν x) : ∀ l : List α, sumB μ l ≤ sumB ν l
 | [] => Nat.le_refl _
 | x :: l => Nat.add_le_add (h x) (sumB_le h l)
theorem sumB_map {α β : Type} (μ : β → Nat) (f : α → β) : ∀ l : List α, sumB μ (l.map f) = sumB (fun x => μ (f x)) l
 | [] => rfl
 | x :: l => by show μ (f x) + sumB μ (l.map f) = _; rw [sumB_map μ f l]; rfl
theorem flat_sum {α : Type} (f : α → List It) : ∀ l : List α, rl (l.flatMap f) = sumB (fun x => rl (f x)) l
 | [] => rfl
 | x :: l => by rw [List.flatMap_cons, rl_app, flat_sum f l]; rfl
theorem sep_sum (g : List It) (l : List (List It)) : rl (sepI g l) ≤ sumB (fun b => rl b + rl g) l := by
 cases l with
 | nil => exact Nat.le_refl _
 | cons a l =>
  show rl (a ++ l.flatMap fun b => g ++ b) ≤ (rl a + rl g) + sumB _ l
  rw [rl_app, flat_sum]; have : sumB (fun x => rl (g ++ x)) l = sumB (fun b => rl b + rl g) l := by
   congr 1; funext x; rw [rl_app]; omega
  omega
theorem isT_tl {s : List UInt8} {r : List Tok} (h : isT s r = true) : r.tail.length + 1 = r.length := by
 cases r with
 | nil => simp [isT, isS, isW] at h
 | cons t r => rfl
theorem sz_name {r : List Tok} {x : List UInt8} {r1 : List Tok} (h : GT r) (e : nameP r = .ok x r1) : x.length ≤ 32 ∧ r1.length + 1 = r.length ∧ GT r1 := by
 obtain ⟨h1, h2⟩ := gd_name r x r1 h e; refine ⟨h1.len, ?_, h2⟩
 cases r with
 | nil => cases e
 | cons t r =>
  have e : (if t.kind = 1 then PR.ok t.text r else .bad t.at_ 4) = .ok x r1 := e
  split at e
  ·injection e with e1 e2; subst e2; rfl
  ·cases e
theorem sz_want {s : List UInt8} {r : List Tok} {u : Unit} {r1 : List Tok} (h : GT r) (e : wantP s r = .ok u r1) : r1.length + 1 = r.length ∧ GT r1 := by
 refine ⟨?_, (gd_want s r u r1 h e).2⟩
 unfold wantP at e
 split at e
 ·rename_i hc
  injection e with e1 e2; subst e2; exact isT_tl hc
 ·cases e
def Sz {α : Type} (f : List Tok → PR α) (μ : α → Nat) : Prop := ∀ r x r1, GT r → f r = .ok x r1 → μ x + 500 * r1.length ≤ 500 * r.length ∧ GT r1
theorem sz_any {α : Type} {f : List Tok → PR α} {μ : α → Nat} (hf : Sz f μ) (c : List UInt8) : ∀ (n : Nat) (acc : List α) r l r1, GT r → anyP f c n acc r = .ok l r1 → sumB μ l + 500 * r1.length + 500 ≤ sumB μ acc + 500 * r.length ∧ GT r1
 | 0, acc, r, l, r1, h, e => by cases e
 | n + 1, acc, r, l, r1, h, e => by
  rw [anyP] at e
  split at e
  ·rename_i hc
   have := isT_tl hc
   injection e with e1 e2; subst e1; subst e2; exact ⟨by omega, h.tail⟩
  ·obtain ⟨y, r2, h1, h2⟩ := bind_inv e; obtain ⟨k1, k2⟩ := hf r y r2 h h1; obtain ⟨k3, k4⟩ := sz_any hf c n _ r2 l r1 k2 h2; rw [sumB_app] at k3; have : sumB μ [y] = μ y := by simp [sumB]
   exact ⟨by omega, k4⟩
theorem sz_many {α : Type} {f : List Tok → PR α} {μ : α → Nat} (hf : Sz f μ) (c : List UInt8) : ∀ (n : Nat) (acc : List α) r l r1, GT r → manyP f c n acc r = .ok l r1 → sumB μ l + 500 * r1.length + 500 ≤ sumB μ acc + 500 * r.length ∧ GT r1
 | 0, acc, r, l, r1, h, e => by cases e
 | n + 1, acc, r, l, r1, h, e => by
  rw [manyP] at e; obtain ⟨y, r2, h1, h2⟩ := bind_inv e; obtain ⟨k1, k2⟩ := hf r y r2 h h1; have hy : sumB μ [y] = μ y := by simp [sumB]
  split at h2
  ·rename_i hc
   have := isT_tl hc
   injection h2 with e1 e2; subst e1; subst e2
   rw [sumB_app]; exact ⟨by omega, k2.tail⟩
  ·obtain ⟨k3, k4⟩ := sz_many hf c n _ r2 l r1 k2 h2; rw [sumB_app] at k3; exact ⟨by omega, k4⟩
theorem num_rl {n : Int} (h : NumOk n) : (numS n).length ≤ 20 := by
 have := digS_len 17 n.natAbs (by unfold NumOk at h; omega); unfold numS sgn
 split <;> simp <;> omega
theorem esc_rl : ∀ l : List UInt8, (escS l).length ≤ 2 * l.length
 | [] => by simp [escS]
 | c :: l => by
  have := esc_rl l; have h1 : (esc1 c).length ≤ 2 := by
    unfold esc1; repeat' split
    all_goals simp
  rw [escS_cons, List.length_append, List.length_cons]; omega
theorem zip_map (ps : List (List UInt8 × VT)) : List.zipWith pairI (ps.map (·.1)) ((ps.map (·.2)).map valI) = ps.map fun p => pairI p.1 (valI p.2) := by
 induction ps with
 | nil => rfl
 | cons p ps ih => simp only [List.map_cons, List.zipWith_cons_cons, ih]
theorem rl_gap : rl gapI = 2 := rfl
theorem sz_val (fx : Bool) : ∀ d, Sz (valueP fx d) (fun v => rl (valI v) + 8)
 | 0 => fun r x r1 h e => by cases e
 | d + 1 => fun r x r1 h e => by
  have ih := sz_val fx d; have hgd := (gd_val fx (d + 1) r x r1 h e).2; refine ⟨?_, hgd⟩
  cases r with
  | nil => cases e
  | cons t r =>
   rw [valueP, vB_cons] at e; have ht := h t (by simp); have hr : GT r := fun u hu => h u (by simp [hu])
   simp only [List.length_cons]
   split at e
   ·rename_i hk
    injection e with e1 e2; subst e1; subst e2
    have := num_rl (ht.2.1 hk); rw [valI_eq, if_pos rfl, rl_cons, rl_nil]
    show (numS t.n).length + 0 + 8 + _ ≤ _; (try dsimp only at *); omega
   split at e
   ·rename_i hk
    injection e with e1 e2; subst e1; subst e2
    have h1 := esc_rl t.text; have h2 := ht.2.2 hk; rw [valI_eq, if_neg (by decide), if_pos (by decide), rl_cons, rl_nil]
    show (34 :: (escS t.text ++ [34])).length + 0 + 8 + _ ≤ _
    simp only [List.length_cons, List.length_append, List.length_nil]; (try dsimp only at *); omega
   split at e
   ·injection e with e1 e2; subst e1; subst e2
    show 4 + 8 + _ ≤ _; (try dsimp only at *); omega
   split at e
   ·injection e with e1 e2; subst e1; subst e2
    show 5 + 8 + _ ≤ _; (try dsimp only at *); omega
   split at e
   ·injection e with e1 e2; subst e1; subst e2
    show 4 + 8 + _ ≤ _; (try dsimp only at *); omega
   split at e
   ·rename_i hk
    injection e with e1 e2; subst e1; subst e2
    have := (ht.1 hk).len; rw [valI_eq, if_neg (by decide), if_neg (by decide), if_neg (by decide), if_pos rfl, rl_cons, rl_nil, rl_nm]; (try dsimp only at *); omega
   split at e
   ·obtain ⟨s, r2, k1, k2⟩ := bind_inv e; obtain ⟨g1, g2, g3⟩ := sz_name hr k1
    injection k2 with e1 e2; subst e1; subst e2
    rw [valI_eq, if_neg (by decide), if_neg (by decide), if_neg (by decide), if_neg (by decide), if_pos rfl, rl_cons, rl_cons, rl_nil, rl_nm, rl_sg]; (try dsimp only at *); omega
   split at e
   ·obtain ⟨vs, r2, k1, k2⟩ := bind_inv e; obtain ⟨g1, g2⟩ := sz_any ih _ _ [] r vs r2 hr k1
    injection k2 with e1 e2; subst e1; subst e2
    have h1 := sep_sum gapI (vs.map valI); rw [sumB_map, rl_gap] at h1; have h2 := sumB_le (μ := fun v => rl (valI v) + 2) (ν := fun v => rl (valI v) + 8) (fun v => by omega) vs; have h3 : sumB (fun v => rl (valI v) + 8) [] = 0 := rfl; rw [valI_eq, if_neg (by decide), if_neg (by decide), if_neg (by decide), if_neg (by decide), if_neg (by decide), if_pos rfl, rl_cons, rl_app, rl_cons, rl_nil, rl_sg, rl_sg]; (try dsimp only at *); omega
   split at e
   ·obtain ⟨ps, r2, k1, k2⟩ := bind_inv e; have hpair : Sz (pairP (valueP fx d)) (fun p => rl (pairI p.1 (valI p.2)) + 8) := fun r x r1 h e => by
     obtain ⟨s, q1, j1, e⟩ := bind_inv e; obtain ⟨u, q2, j2, e⟩ := bind_inv e; obtain ⟨v, q3, j3, e⟩ := bind_inv e
     injection e with e1 e2; subst e1; subst e2
     obtain ⟨g1, g2, g3⟩ := sz_name h j1; obtain ⟨g4, g5⟩ := sz_want g3 j2; obtain ⟨g6, g7⟩ := ih _ _ _ g5 j3; refine ⟨?_, g7⟩
     show rl (nmI s :: sgI 58 :: .sp 32 :: valI v) + 8 + _ ≤ _
     rw [rl_cons, rl_cons, rl_cons, rl_nm, rl_sg, rl_sp]; (try dsimp only at *); omega
    obtain ⟨g1, g2⟩ := sz_any hpair _ _ [] r ps r2 hr k1
    injection k2 with e1 e2; subst e1; subst e2
    have h1 := sep_sum gapI (ps.map fun p => pairI p.1 (valI p.2)); rw [sumB_map, rl_gap] at h1; have h2 := sumB_le (μ := fun p : List UInt8 × VT => rl (pairI p.1 (valI p.2)) + 2) (ν := fun p => rl (pairI p.1 (valI p.2)) + 8) (fun v => by omega) ps; have h3 : sumB (fun p : List UInt8 × VT => rl (pairI p.1 (valI p.2)) + 8) [] = 0 := rfl; rw [valI_eq, if_neg (by decide), if_neg (by decide), if_neg (by decide), if_neg (by decide), if_neg (by decide), if_neg (by decide), if_pos rfl, zip_map, rl_cons, rl_app, rl_cons, rl_nil, rl_sg, rl_sg]; (try dsimp only at *); omega
   ·cases e
theorem rl_bang (b : Bool) : rl (bangI b) ≤ 1 := by cases b <;> decide
theorem sz_bang (mk : Bool → TR) {r : List Tok} {x : TR} {r1 : List Tok} (h : GT r) (e : bangP mk r = .ok x r1) : ∃ b, x = mk b ∧ r1.length ≤ r.length ∧ GT r1 := by
 unfold bangP at e
 split at e
 ·injection e with e1 e2; subst e1; subst e2; exact ⟨true, rfl, by rw [List.length_tail]; omega, h.tail⟩
 ·injection e with e1 e2; subst e1; subst e2; exact ⟨false, rfl, Nat.le_refl _, h⟩
theorem sz_typ : ∀ d, Sz (typP d) (fun t => rl (typI t) + 8)
 | 0 => fun r x r1 h e => by cases e
 | d + 1 => fun r x r1 h e => by
  rw [typP] at e
  split at e
  ·rename_i hc
   have hl := isT_tl hc; obtain ⟨t, q1, j1, e⟩ := bind_inv e; obtain ⟨u, q2, j2, e⟩ := bind_inv e; obtain ⟨g1, g2⟩ := sz_typ d _ _ _ h.tail j1; obtain ⟨g3, g4⟩ := sz_want g2 j2; obtain ⟨b, rfl, g5, g6⟩ := sz_bang _ g4 e; refine ⟨?_, g6⟩
   have hb := rl_bang b
   show rl (typI (.ls t b)) + 8 + _ ≤ _
   rw [typI, rl_cons, rl_app, rl_cons, rl_sg, rl_sg]; (try dsimp only at *); omega
  ·obtain ⟨s, q1, j1, e⟩ := bind_inv e; obtain ⟨g1, g2, g3⟩ := sz_name h j1; obtain ⟨b, rfl, g5, g6⟩ := sz_bang _ g3 e; refine ⟨?_, g6⟩
   have hb := rl_bang b
   show rl (typI (.nm s b)) + 8 + _ ≤ _
   rw [typI, rl_cons, rl_nm]; (try dsimp only at *); omega
theorem rl_par {α : Type} (f : α → List It) (l : List α) : rl (parI (l.map f)) ≤ 2 + sumB (fun x => rl (f x) + 8) l := by
 unfold parI
 split
 ·rw [rl_nil]; (try dsimp only at *); omega
 ·have h1 := sep_sum gapI (l.map f); rw [sumB_map, rl_gap] at h1; have h2 := sumB_le (μ := fun x => rl (f x) + 2) (ν := fun x => rl (f x) + 8) (fun v => by omega) l; rw [rl_cons, rl_app, rl_cons, rl_nil, rl_sg, rl_sg]; (try dsimp only at *); omega
end Go.Proofs.YtnkpoddbbdmipaaGreatDoor
