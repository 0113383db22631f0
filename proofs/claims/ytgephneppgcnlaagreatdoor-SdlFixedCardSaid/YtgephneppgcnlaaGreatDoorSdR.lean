/- sdl.reader in memory; its small calls. -/
import Derived.Test.YtgephneppgcnlaaGreatDoorTrw
import Derived.Test.YtgephneppgcnlaaGreatDoorJnt
import Derived.Test.YtgephneppgcnlaaGreatDoorEnc
import Derived.Test.YtgephneppgcnlaaGreatDoorEnR
import Derived.Test.YtgephneppgcnlaaGreatDoorRgA
import Derived.Deep.QuietTactic
import Derived.BigQuiet
import Derived.IntWalk
namespace Go.Proofs.YtgephneppgcnlaaGreatDoor
open Go Go.RowKit
set_option linter.unusedVariables false
set_option linter.unusedSimpArgs false

/-- The reader at b stands ahead of the tokens r; e is its fault's number. -/
structure RdS (w : World) (b : Nat) (all r : List Tok) (e : Int) : Prop where
  row : ∃ g off c i, w.heap[b]? = some (.cells #[.slice (some ⟨g, off, none⟩) all.length c, .int .i64 (i : Nat), .int .i64 e] 48 (0, 0)) ∧ TRow w (.slice (some ⟨g, off, none⟩) all.length c) all ∧ g < b ∧ all.drop i = r ∧ i + r.length = all.length
  ends : EndR r
  few : all.length ≤ 1000000
theorem RdS.lt {w : World} {b : Nat} {all r : List Tok} {e : Int} (h : RdS w b all r e) : b < w.heap.size := by
  obtain ⟨g, off, c, i, h1, _⟩ := h.row
  exact (Array.getElem?_eq_some_iff.1 h1).1
theorem RdS.only {S : Nat → Prop} {w w' : World} {b : Nat} {all r : List Tok} {e : Int} (h : RdS w b all r e) (ho : Only S w w') (hS : ∀ k, k ≤ b → ¬ S k) : RdS w' b all r e := by
  obtain ⟨g, off, c, i, h1, h2, h3, h4, h5⟩ := h.row
  refine ⟨⟨g, off, c, i, ?_, ?_, h3, h4, h5⟩, h.ends, h.few⟩
  · rw [ho.block b h.lt (hS b (Nat.le_refl _))]; exact h1
  · refine h2.only (S := fun k => S k) ho (fun a n c' e => ?_)
    injection e with e
    injection e with e
    subst e
    exact hS g (by omega)
theorem RdS.still {w w' : World} {b : Nat} {all r : List Tok} {e : Int} (h : RdS w b all r e) (ho : Only (fun _ => False) w w') : RdS w' b all r e := h.only ho (fun _ _ h => h)
theorem RdS.next {w : World} {b : Nat} {all r : List Tok} {e : Int} (h : RdS w b all r e) : ∃ g off c N t r', r = t :: r' ∧ ∃ i : Nat, w.cell? ⟨b, 0, none⟩ = some (.slice (some ⟨g, off, none⟩) N c) ∧ w.cell? ⟨b, 1, none⟩ = some (.int .i64 (i : Int)) ∧ w.cell? ⟨b, 2, none⟩ = some (.int .i64 e) ∧ (∀ o, w.frozen? ⟨b, o, none⟩ = false) ∧
    i < N ∧ N ≤ c ∧ N ≤ 1000000 ∧ c ≤ 9223372036854775807 ∧ g < b ∧
    w.cell? ⟨g, off + i * 4, none⟩ = some (.int .u8 (t.kind : Int)) ∧ w.cell? ⟨g, off + i * 4 + 1, none⟩ = some (.string ⟨t.text.toArray⟩) ∧ w.cell? ⟨g, off + i * 4 + 2, none⟩ = some (.int .i64 t.n) ∧ w.cell? ⟨g, off + i * 4 + 3, none⟩ = some (.int .i64 (t.at_ : Int)) := by
  obtain ⟨g, off, c, i, h1, h2, h3, h4, h5⟩ := h.row
  have he := h.ends
  cases r with
  | nil => exact absurd he (by simp [EndR])
  | cons t r' =>
    have hi : i < all.length := by simp only [List.length_cons] at h5; omega
    obtain ⟨g', off', c', e, k1, k2, k3, HC⟩ := h2.at_ hi
    injection e with e e2 e3
    injection e with e
    injection e with e4 e5 _
    subst e4; subst e5; subst e3
    obtain ⟨a1, a2, a3, a4⟩ := HC i hi
    have ht : all[i] = t := by
      have := congrArg (fun l : List Tok => l[0]?) h4
      simp only [List.getElem?_drop, Nat.add_zero, List.getElem?_cons_zero] at this
      rw [List.getElem?_eq_getElem hi] at this
      exact Option.some.inj this
    rw [ht] at a1 a2 a3 a4
    unfold maxLen at k2
    exact ⟨g, off, c, all.length, t, r', rfl, i, by simp [World.cell?, h1], by simp [World.cell?, h1], by simp [World.cell?, h1], fun o => by simp [World.frozen?, h1], hi, k1, h.few, k2, h3, a1, a2, a3, a4⟩
theorem RdS.set {w : World} {b : Nat} {all r : List Tok} {e : Int} (h : RdS w b all r e) {g off c : Nat} {i : Nat} (h0 : w.heap[b]? = some (.cells #[.slice (some ⟨g, off, none⟩) all.length c, .int .i64 (i : Int), .int .i64 e] 48 (0, 0))) (S : Nat → Prop) {w' : World} (ho : Only (fun k => k = b) w w') {j : Nat} {e' : Int} {r' : List Tok}
    (h1 : w'.heap[b]? = some (.cells #[.slice (some ⟨g, off, none⟩) all.length c, .int .i64 (j : Int), .int .i64 e'] 48 (0, 0))) (hj : all.drop j = r') (hl : j + r'.length = all.length) (he : EndR r') : RdS w' b all r' e' := by
  obtain ⟨g', off', c', i', k1, k2, k3, k4, k5⟩ := h.row
  have : g' = g ∧ off' = off ∧ c' = c := by rw [h0] at k1; simp at k1; exact ⟨k1.1.1.1.symm, k1.1.1.2.symm, k1.1.2.symm⟩
  obtain ⟨rfl, rfl, rfl⟩ := this
  refine ⟨⟨g', off', c', j, h1, k2.only ho (fun a n c e => ?_), k3, hj, hl⟩, he, h.few⟩
  injection e with e
  injection e with e
  subst e
  show ¬ g' = b; omega
theorem RdS.step {w : World} {b : Nat} {all r' : List Tok} {t : Tok} {e : Int} (h : RdS w b all (t :: r') e) (hk : t.kind ≠ 0) {i : Int} (hi : w.cell? ⟨b, 1, none⟩ = some (.int .i64 i)) : RdS (w.setCell ⟨b, 1, none⟩ (.int .i64 (i + 1))) b all r' e := by
  obtain ⟨g, off, c, j, h1, h2, h3, h4, h5⟩ := h.row
  have hj : i = (j : Int) := by
    simp [World.cell?, h1] at hi
    exact hi.symm
  subst hj
  have ho : Only (fun k => k = b) w (w.setCell ⟨b, 1, none⟩ (.int .i64 ((j : Int) + 1))) := (Only.refl (fun k => k = b) w).setCell (.inl rfl) _
  refine ⟨⟨g, off, c, j + 1, ?_, h2.only ho (fun a n c' e => ?_), h3, ?_, ?_⟩, h.ends.tail hk, h.few⟩
  · have := heap_set (o := 1) h1 (.int .i64 ((j : Int) + 1))
    rw [this]; simp
  · injection e with e
    injection e with e
    subst e
    show ¬ g = b; omega
  · rw [← List.drop_drop, h4]; rfl
  · simp only [List.length_cons] at h5; omega
theorem RdS.err {w : World} {b : Nat} {all r : List Tok} {e : Int} (h : RdS w b all r e) (x : Int) : RdS (w.setCell ⟨b, 2, none⟩ (.int .i64 x)) b all r x := by
  obtain ⟨g, off, c, j, h1, h2, h3, h4, h5⟩ := h.row
  have ho : Only (fun k => k = b) w (w.setCell ⟨b, 2, none⟩ (.int .i64 x)) := (Only.refl (fun k => k = b) w).setCell (.inl rfl) _
  refine ⟨⟨g, off, c, j, ?_, h2.only ho (fun a n c' e => ?_), h3, h4, h5⟩, h.ends, h.few⟩
  · have := heap_set (o := 2) h1 (.int .i64 x)
    rw [this]; simp
  · injection e with e
    injection e with e
    subst e
    show ¬ g = b; omega
/-- Where the reader stands, or its fault. -/
def stOf (r : List Tok) (e : Nat) : PR Unit := if e = 0 then .ok () r else .bad (atT r) e
def Sd (w : World) (b : Nat) (all : List Tok) (σ : PR Unit) : Prop := ∃ (r : List Tok) (e : Nat), RdS w b all r (e : Int) ∧ σ = stOf r e
theorem Sd.only {S : Nat → Prop} {w w' : World} {b : Nat} {all : List Tok} {σ : PR Unit} (h : Sd w b all σ) (ho : Only S w w') (hS : ∀ k, k ≤ b → ¬ S k) : Sd w' b all σ := by
  obtain ⟨r, e, h, hs⟩ := h
  exact ⟨r, e, h.only ho hS, hs⟩
theorem Sd.still {w w' : World} {b : Nat} {all : List Tok} {σ : PR Unit} (h : Sd w b all σ) (ho : Only (fun _ => False) w w') : Sd w' b all σ := h.only ho (fun _ _ h => h)
theorem Sd.lt {w : World} {b : Nat} {all : List Tok} {σ : PR Unit} (h : Sd w b all σ) : b < w.heap.size := by
  obtain ⟨r, e, h, _⟩ := h
  exact h.lt
/-- What a call of such a reader comes to: what it hands back, v, is told where there is no fault; J is its form. -/
def SAns {α : Type} (w : World) (b : Nat) (all : List Tok) (σ : PR Unit) (V : World → α → Value → Prop) (J : Value → Prop) (p : List Tok → PR α) (en : Ending) (w' : World) : Prop :=
  ∃ v, en = .returned v ∧ J v ∧ Sd w' b all (σ.bind fun _ => p).unit ∧ (∀ x q, (σ.bind fun _ => p) = .ok x q → V w' x v) ∧ Only (fun k => k = b) w w'
def strJ (v : Value) : Prop := ∃ s : List UInt8, v = .string ⟨s.toArray⟩
def unitJ (v : Value) : Prop := v = .tuple #[]
theorem st_ok (r : List Tok) : stOf r 0 = .ok () r := rfl
theorem st_bad {r : List Tok} {e : Nat} (h : e ≠ 0) : stOf r e = .bad (atT r) e := if_neg h
set_option maxRecDepth 100000 in
theorem sfail_any (b : Nat) (all : List Tok) (σ : PR Unit) (c : Nat) (hc : c ≠ 0) (w : World) (h : Sd w b all σ) :
    Calls Tryz.prog 28 #[.pointer (some ⟨b, 0, none⟩), .int .i64 (c : Int)] w fun e w' => e = .returned (.tuple #[]) ∧ Sd w' b all (flt σ c) ∧ Only (fun k => k = b) w w' := by
  obtain ⟨r, e, h, rfl⟩ := h
  obtain ⟨g, off, cc, N, t, r', hr, i, c0, c1, c2, fz, -⟩ := h.next
  by_cases he : e = 0
  · subst he
    have h3 := h.err (c : Int)
    have hO : Only (fun k => k = b) w (w.setCell ⟨b, 2, none⟩ (.int .i64 (c : Int))) := (Only.refl (fun k => k = b) w).setCell (.inl rfl) _
    have H3 := Lib.hid (show Sd (w.setCell ⟨b, 2, none⟩ (.int .i64 (c : Int))) b all (flt (stOf r 0) c) from ⟨r, c, h3, by rw [st_bad hc]; rfl⟩); have HO := Lib.hid hO
    clear h h3 hO hr c0 c1 hc
    go_enter Tryz.func28, Tryz.ntmps28
    go_wp2_with fail
    go_end0
    exact ⟨rfl, H3.out, HO.out⟩
  · have H3 := Lib.hid (show Sd w b all (flt (stOf r e) c) from ⟨r, e, h, by rw [st_bad he]; rfl⟩)
    have t1 : ((e : Int) == 0) = false := by simp; omega
    clear h hr c0 c1 hc he
    go_enter Tryz.func28, Tryz.ntmps28
    go_wp2_with fail
    go_end0
    exact ⟨rfl, H3.out, Only.refl _ _⟩
set_option maxRecDepth 100000 in
theorem sis_any (b : Nat) (all : List Tok) (σ : PR Unit) (s : List UInt8) (w : World) (h : Sd w b all σ) :
    Calls Tryz.prog 46 #[.pointer (some ⟨b, 0, none⟩), .string ⟨s.toArray⟩] w fun e w' => e = .returned (.bool (tst σ (isT s))) ∧ Only (fun _ => False) w w' := by
  obtain ⟨r, e, h, rfl⟩ := h
  obtain ⟨g, off, c, N, t, r', rfl, i, c0, c1, c2, fz, hi, hc, hN, hcm, hgb, a1, a2, a3, a4⟩ := h.next
  have hlt := h.lt
  have cf : ∀ w', Only (fun _ => False) w w' → w'.cell? ⟨b, 0, none⟩ = some (.slice (some ⟨g, off, none⟩) N c) ∧ w'.cell? ⟨b, 1, none⟩ = some (.int .i64 (i : Int)) ∧ w'.cell? ⟨g, off + i * 4, none⟩ = some (.int .u8 (t.kind : Int)) ∧ w'.cell? ⟨g, off + i * 4 + 1, none⟩ = some (.string ⟨t.text.toArray⟩) ∧ w'.cell? ⟨g, off + i * 4 + 2, none⟩ = some (.int .i64 t.n) ∧ w'.cell? ⟨g, off + i * 4 + 3, none⟩ = some (.int .i64 (t.at_ : Int)) := fun w' o =>
    ⟨by rw [cell_keep o (cell_lt c0) (fun h => h)]; exact c0, by rw [cell_keep o (cell_lt c1) (fun h => h)]; exact c1, by rw [cell_keep o (cell_lt a1) (fun h => h)]; exact a1, by rw [cell_keep o (cell_lt a2) (fun h => h)]; exact a2, by rw [cell_keep o (cell_lt a3) (fun h => h)]; exact a3, by rw [cell_keep o (cell_lt a4) (fun h => h)]; exact a4⟩
  have ce : ∀ X w', Only (fun k => k = X) w w' → w.heap.size ≤ X → w'.cell? ⟨b, 2, none⟩ = some (.int .i64 (e : Int)) := fun X w' o hX => by rw [cell_keep o (cell_lt c2) (by show b ≠ X; omega)]; exact c2
  have hiN : (i : Int) < (N : Int) := by omega
  obtain ⟨Q, hQ⟩ : ∃ Q, tst (stOf (t :: r') e) (isT s) = Q := ⟨_, rfl⟩
  rw [hQ]
  have hq : Q = (decide (e = 0) && (decide (t.kind = 1) || decide (t.kind = 4)) && (t.text == s)) := by
    rw [← hQ]
    by_cases he : e = 0
    · subst he
      show (decide (t.kind = 4) && decide (t.text = s) || decide (t.kind = 1) && decide (t.text = s)) = _
      rw [Bool.eq_iff_iff]
      simp only [Bool.or_eq_true, Bool.and_eq_true, decide_eq_true_eq, beq_iff_eq]
      constructor
      · rintro (⟨h1, h2⟩ | ⟨h1, h2⟩)
        · exact ⟨⟨trivial, .inr h1⟩, h2⟩
        · exact ⟨⟨trivial, .inl h1⟩, h2⟩
      · rintro ⟨⟨_, h1⟩, h2⟩
        rcases h1 with h1 | h1
        · exact .inr ⟨h1, h2⟩
        · exact .inl ⟨h1, h2⟩
    · rw [st_bad he, decide_eq_false he]; rfl
  have CF := Lib.hid cf; have CE := Lib.hid ce; have HQ := Lib.hid hq
  clear cf ce hQ hq h c0 c1 c2 fz a1 a2 a3 a4
  go_enter Tryz.func46, Tryz.ntmps46
  go_upto_region 1 with (fail)
  refine wp_region_steps 11 (by kernel_rfl) rfl (by kernel_rfl) [some 6, some 7, some 8, some 9, some 10, some 11, some 12, some 13, some 14, some 15, some 5] rfl rfl (fun _ => False) [(fun v _ => v = (.pointer (some ⟨b, 0, none⟩))), (fun v _ => v = (.pointer (some ⟨b, 0, none⟩))), (fun v _ => v = (.pointer (some ⟨b, 0, none⟩))), (fun v _ => v = (.slice (some ⟨g, off, none⟩) N c)), (fun v _ => v = (.pointer (some ⟨b, 0, none⟩))), (fun v _ => v = (.pointer (some ⟨b, 0, none⟩))), (fun v _ => v = (.pointer (some ⟨b, 1, none⟩))), (fun v _ => v = (.int .i64 (i : Int))), (fun v _ => v = (.pointer (some ⟨g, off + i * 4, none⟩))), (fun v _ => v = (.agg #[.int .u8 (t.kind : Int), .string ⟨t.text.toArray⟩, .int .i64 t.n, .int .i64 (t.at_ : Int)])), (fun v wv => ∃ X, v = .pointer (some ⟨X, 0, none⟩) ∧ w.heap.size ≤ X ∧ wv.heap[X]? = some (.cells [.int .u8 0, .string ⟨#[]⟩, .int .i64 0, .int .i64 0].toArray 50 (0, 0)))] rfl ⟨?_, ?_, ?_, ?_, ?_, ?_, ?_, ?_, ?_, ?_, ?_, trivial⟩ _ rfl ⟨?_, ?_, ?_, ?_, ?_, ?_, ?_, ?_, ?_, ?_, ?_, trivial⟩ ?_
  · exact Stable.is _ _
  · exact Stable.is _ _
  · exact Stable.is _ _
  · exact Stable.is _ _
  · exact Stable.is _ _
  · exact Stable.is _ _
  · exact Stable.is _ _
  · exact Stable.is _ _
  · exact Stable.is _ _
  · exact Stable.is _ _
  · exact (fun v w1 w2 h ho => by obtain ⟨X, e, hX, hc⟩ := h; exact ⟨X, e, hX, (ho.block X (Array.getElem?_eq_some_iff.1 hc).1 (fun h => h)).trans hc⟩)
  · intro x wx ox hN TT HTT
    clear hN
    unfold StepTo
    simp only [putAll, Act.put, List.setIfInBounds_toArray, List.set_cons_succ, List.set_cons_zero]
    go_wp2_with fail
    exact ⟨rfl, _, rfl, HTT.out _ _ (rfl) (Only.refl _ _)⟩
  · intro x wx ox hN TT HTT
    have r6 : x 0 = (.pointer (some ⟨b, 0, none⟩)) := hN.1 rfl
    clear hN
    unfold StepTo
    simp only [putAll, Act.put, List.setIfInBounds_toArray, List.set_cons_succ, List.set_cons_zero, r6]
    clear r6
    go_wp2_with fail
    exact ⟨rfl, _, rfl, HTT.out _ _ (rfl) (Only.refl _ _)⟩
  · intro x wx ox hN TT HTT
    have r7 : x 1 = (.pointer (some ⟨b, 0, none⟩)) := hN.1 rfl
    clear hN
    unfold StepTo
    simp only [putAll, Act.put, List.setIfInBounds_toArray, List.set_cons_succ, List.set_cons_zero, r7]
    clear r7
    go_wp2_with fail
    exact ⟨rfl, _, rfl, HTT.out _ _ (rfl) (Only.refl _ _)⟩
  · intro x wx ox hN TT HTT
    have r8 : x 2 = (.pointer (some ⟨b, 0, none⟩)) := hN.1 rfl
    clear hN
    unfold StepTo
    simp only [putAll, Act.put, List.setIfInBounds_toArray, List.set_cons_succ, List.set_cons_zero, r8]
    clear r8
    obtain ⟨x0, x1, x2, x3, x4, x5⟩ := CF.out wx (((Only.refl _ w).drew).trans ox)
    go_wp2_with fail
    exact ⟨rfl, _, rfl, HTT.out _ _ (rfl) (Only.refl _ _)⟩
  · intro x wx ox hN TT HTT
    clear hN
    unfold StepTo
    simp only [putAll, Act.put, List.setIfInBounds_toArray, List.set_cons_succ, List.set_cons_zero]
    go_wp2_with fail
    exact ⟨rfl, _, rfl, HTT.out _ _ (rfl) (Only.refl _ _)⟩
  · intro x wx ox hN TT HTT
    have r10 : x 4 = (.pointer (some ⟨b, 0, none⟩)) := hN.1 rfl
    clear hN
    unfold StepTo
    simp only [putAll, Act.put, List.setIfInBounds_toArray, List.set_cons_succ, List.set_cons_zero, r10]
    clear r10
    go_wp2_with fail
    exact ⟨rfl, _, rfl, HTT.out _ _ (rfl) (Only.refl _ _)⟩
  · intro x wx ox hN TT HTT
    have r11 : x 5 = (.pointer (some ⟨b, 0, none⟩)) := hN.1 rfl
    clear hN
    unfold StepTo
    simp only [putAll, Act.put, List.setIfInBounds_toArray, List.set_cons_succ, List.set_cons_zero, r11]
    clear r11
    go_wp2_with fail
    exact ⟨rfl, _, rfl, HTT.out _ _ (rfl) (Only.refl _ _)⟩
  · intro x wx ox hN TT HTT
    have r12 : x 6 = (.pointer (some ⟨b, 1, none⟩)) := hN.1 rfl
    clear hN
    unfold StepTo
    simp only [putAll, Act.put, List.setIfInBounds_toArray, List.set_cons_succ, List.set_cons_zero, r12]
    clear r12
    obtain ⟨x0, x1, x2, x3, x4, x5⟩ := CF.out wx (((Only.refl _ w).drew).trans ox)
    go_wp2_with fail
    exact ⟨rfl, _, rfl, HTT.out _ _ (rfl) (Only.refl _ _)⟩
  · intro x wx ox hN TT HTT
    have r9 : x 3 = (.slice (some ⟨g, off, none⟩) N c) := hN.1 rfl
    have r13 : x 7 = (.int .i64 (i : Int)) := hN.2.1 rfl
    clear hN
    unfold StepTo
    simp only [putAll, Act.put, List.setIfInBounds_toArray, List.set_cons_succ, List.set_cons_zero, r9, r13]
    clear r9 r13
    go_wp2_with fail
    exact ⟨rfl, _, rfl, HTT.out _ _ (rfl) (Only.refl _ _)⟩
  · intro x wx ox hN TT HTT
    have r14 : x 8 = (.pointer (some ⟨g, off + i * 4, none⟩)) := hN.1 rfl
    clear hN
    unfold StepTo
    simp only [putAll, Act.put, List.setIfInBounds_toArray, List.set_cons_succ, List.set_cons_zero, r14]
    clear r14
    obtain ⟨x0, x1, x2, x3, x4, x5⟩ := CF.out wx (((Only.refl _ w).drew).trans ox)
    go_wp2_with fail
    exact ⟨rfl, _, rfl, HTT.out _ _ (rfl) (Only.refl _ _)⟩
  · intro x wx ox hN TT HTT
    clear hN
    unfold StepTo
    simp only [putAll, Act.put, List.setIfInBounds_toArray, List.set_cons_succ, List.set_cons_zero]
    go_wp2_with fail
    exact ⟨rfl, _, rfl, HTT.out _ _ (⟨wx.heap.size, rfl, (by have := ox.size; simp at this; omega), heap_new wx _⟩) ((Only.refl _ _).alloc _)⟩
  intro xz wxz oxz hN
  have r6 : xz 0 = (.pointer (some ⟨b, 0, none⟩)) := hN.1
  have r7 : xz 1 = (.pointer (some ⟨b, 0, none⟩)) := hN.2.1
  have r8 : xz 2 = (.pointer (some ⟨b, 0, none⟩)) := hN.2.2.1
  have r9 : xz 3 = (.slice (some ⟨g, off, none⟩) N c) := hN.2.2.2.1
  have r10 : xz 4 = (.pointer (some ⟨b, 0, none⟩)) := hN.2.2.2.2.1
  have r11 : xz 5 = (.pointer (some ⟨b, 0, none⟩)) := hN.2.2.2.2.2.1
  have r12 : xz 6 = (.pointer (some ⟨b, 1, none⟩)) := hN.2.2.2.2.2.2.1
  have r13 : xz 7 = (.int .i64 (i : Int)) := hN.2.2.2.2.2.2.2.1
  have r14 : xz 8 = (.pointer (some ⟨g, off + i * 4, none⟩)) := hN.2.2.2.2.2.2.2.2.1
  have r15 : xz 9 = (.agg #[.int .u8 (t.kind : Int), .string ⟨t.text.toArray⟩, .int .i64 t.n, .int .i64 (t.at_ : Int)]) := hN.2.2.2.2.2.2.2.2.2.1
  have r5 : (fun (v : Value) (wv : World) => ∃ X, v = .pointer (some ⟨X, 0, none⟩) ∧ w.heap.size ≤ X ∧ wv.heap[X]? = some (.cells [.int .u8 0, .string ⟨#[]⟩, .int .i64 0, .int .i64 0].toArray 50 (0, 0))) (xz 10) wxz := hN.2.2.2.2.2.2.2.2.2.2.1
  clear hN
  simp only [putAll, Act.put, List.setIfInBounds_toArray, List.set_cons_succ, List.set_cons_zero, r6, r7, r8, r9, r10, r11, r12, r13, r14, r15]
  clear r6 r7 r8 r9 r10 r11 r12 r13 r14 r15
  obtain ⟨X, hx5, hBX, hXc⟩ := r5
  have o3 := ((Only.refl (fun _ => False) w).drew).trans oxz
  have HXC := Lib.hid hXc; have O3 := Lib.hid o3
  clear hXc o3 oxz
  rw [hx5]
  clear hx5
  go_upto_region 2 with ((refine wpList_store_box (o := ⟨none, _, _, _, _, _⟩) rfl 50 (.tmp 5) (.tmp 15) (by rfl) X [.int .u8 0, .string ⟨#[]⟩, .int .i64 0, .int .i64 0] [.int .u8 (t.kind : Int), .string ⟨t.text.toArray⟩, .int .i64 t.n, .int .i64 (t.at_ : Int)] (by rfl) (by rfl) HXC.out (by rfl) (by kernel_rfl) (by intro u hu; simp at hu; rcases hu with rfl | rfl | rfl | rfl <;> rfl) ?_; intro w3 k1 k2))
  obtain ⟨z0, z1, z2, z3, fz⟩ := boxN4 k1
  have o4 : Only (fun k => k = X) w w3 := (O3.out.mono (fun _ _ h => h.elim)).trans k2
  have c2 := CE.out X w3 o4 hBX
  have hfin : Only (fun _ => False) w w3 := o4.mono (fun q hq h => by omega)
  have HFIN := Lib.hid hfin
  clear k1 k2 o4 O3 HXC CF CE hfin z2 z3
  by_cases he : e = 0
  · subst he
    by_cases h1 : t.kind = 1
    · have t1 : ((t.kind : Int) == 1) = true := by simp; omega
      have hq2 : Q = (t.text == s) := by rw [HQ.out, decide_eq_true h1]; rfl
      subst hq2
      clear h1
      go_wp2_with fail
      clear c2 z0 z1 fz
      go_ret
      exact ⟨rfl, HFIN.out⟩
    · have t1 : ((t.kind : Int) == 1) = false := by simp; omega
      by_cases h4 : t.kind = 4
      · have t2 : ((t.kind : Int) == 4) = true := by simp; omega
        have hq2 : Q = (t.text == s) := by rw [HQ.out, decide_eq_true h4, Bool.or_true]; rfl
        subst hq2
        clear h1 h4
        go_wp2_with fail
        clear c2 z0 z1 fz
        go_ret
        exact ⟨rfl, HFIN.out⟩
      · have t2 : ((t.kind : Int) == 4) = false := by simp; omega
        have hq2 : Q = false := by rw [HQ.out, decide_eq_false h1, decide_eq_false h4]; rfl
        subst hq2
        clear h1 h4
        go_wp2_with fail
        clear c2 z0 z1 fz
        go_ret
        exact ⟨rfl, HFIN.out⟩
  · have t1 : ((e : Int) == 0) = false := by simp; omega
    have hq2 : Q = false := by rw [HQ.out, decide_eq_false he]; rfl
    subst hq2
    clear he
    go_wp2_with fail
    clear c2 z0 z1 fz
    go_ret
    exact ⟨rfl, HFIN.out⟩
def tookS (σ : PR Unit) (s : List UInt8) : PR Unit := if tst σ (isT s) then adv σ else σ
set_option maxRecDepth 100000 in
theorem stake_any (b : Nat) (all : List Tok) (σ : PR Unit) (s : List UInt8) (w : World) (h : Sd w b all σ) :
    Calls Tryz.prog 19 #[.pointer (some ⟨b, 0, none⟩), .string ⟨s.toArray⟩] w fun e w' => e = .returned (.bool (tst σ (isT s))) ∧ Sd w' b all (tookS σ s) ∧ Only (fun k => k = b) w w' := by
  have H := Lib.hid h
  have I := Lib.hid (sis_any b all σ s w h)
  obtain ⟨bb, hb⟩ : ∃ x, tst σ (isT s) = x := ⟨_, rfl⟩
  unfold tookS
  rw [hb] at I ⊢
  cases bb
  · clear h hb
    go_enter Tryz.func19, Tryz.ntmps19
    go_wp2_with fail
    refine I.out.mono ?_
    rintro e w1 ⟨rfl, O1⟩
    have H1 := Lib.hid (H.out.still O1)
    have HO1 := Lib.hid O1; clear O1
    go_wp2_with fail
    go_ret
    exact ⟨rfl, H1.out, HO1.out.mono (fun _ _ h => h.elim)⟩
  · obtain ⟨r, e, h2, hs⟩ := h
    have he : e = 0 := by
      by_cases he : e = 0
      · exact he
      · rw [hs, st_bad he] at hb; cases hb
    subst he
    obtain ⟨t, r', rfl⟩ : ∃ t r', r = t :: r' := by
      cases r with
      | nil => exact h2.ends.elim
      | cons t r' => exact ⟨t, r', rfl⟩
    have hk : t.kind ≠ 0 := by
      rw [hs] at hb
      have hb : (decide (t.kind = 4) && decide (t.text = s) || decide (t.kind = 1) && decide (t.text = s)) = true := hb
      intro h0
      simp [h0] at hb
    have hσ : adv σ = .ok () r' := by rw [hs]; rfl
    rw [hσ]
    have H2 := Lib.hid h2
    clear h2 hs hb hσ H
    go_enter Tryz.func19, Tryz.ntmps19
    go_wp2_with fail
    refine I.out.mono ?_
    rintro e w2 ⟨rfl, O2⟩
    have h2 := H2.out.still O2
    obtain ⟨g, off, c, N, t', r'', he, i, c0, c1, c2, fz, hi, hc, hN, hcm, -⟩ := h2.next
    have h3 := h2.step hk c1
    have hO : Only (fun k => k = b) w (w2.setCell ⟨b, 1, none⟩ (.int .i64 ((i : Int) + 1))) := (O2.mono (T := fun k => k = b) (fun _ _ h => h.elim)).setCell (.inl rfl) _
    have H3 := Lib.hid (show Sd _ b all (.ok () r') from ⟨r', 0, h3, rfl⟩); have HO := Lib.hid hO
    clear h2 h3 hO O2 he
    go_wp2_with fail
    clear c0 c1 c2 fz
    go_ret
    exact ⟨rfl, H3.out, HO.out⟩
theorem want_took (σ : PR Unit) (s : List UInt8) : (σ.bind fun _ => wantP s).unit = if tst σ (isT s) then adv σ else flt σ 4 := by
  cases σ with
  | ok u r =>
    show PR.unit (wantP s r) = if isT s r then PR.ok () r.tail else .bad (atT r) 4
    unfold wantP
    split <;> rfl
  | bad a e => rfl
set_option maxRecDepth 100000 in
theorem swant_any (b : Nat) (all : List Tok) (σ : PR Unit) (s : List UInt8) (w : World) (h : Sd w b all σ) :
    Calls Tryz.prog 21 #[.pointer (some ⟨b, 0, none⟩), .string ⟨s.toArray⟩] w fun e w' => e = .returned (.tuple #[]) ∧ Sd w' b all (σ.bind fun _ => wantP s).unit ∧ Only (fun k => k = b) w w' := by
  have T := Lib.hid (stake_any b all σ s w h)
  rw [want_took]
  unfold tookS at T
  obtain ⟨bb, hb⟩ : ∃ x, tst σ (isT s) = x := ⟨_, rfl⟩
  rw [hb] at T ⊢
  clear hb h
  cases bb
  · rw [if_neg (by decide)] at T ⊢
    go_enter Tryz.func21, Tryz.ntmps21
    go_wp2_with fail
    refine T.out.mono ?_
    rintro e w1 ⟨rfl, h1, o1⟩
    have O1 := Lib.hid o1
    have J := Lib.hid (sfail_any b all σ 4 (by decide) w1 h1)
    clear o1 h1
    go_wp2_with fail
    refine J.out.mono ?_
    rintro e w2 ⟨rfl, h2, o2⟩
    have H2 := Lib.hid h2; have O2 := Lib.hid (O1.out.trans o2); clear h2 o2
    go_wp2_with fail
    go_end0
    exact ⟨rfl, H2.out, O2.out⟩
  · rw [if_pos rfl] at T ⊢
    go_enter Tryz.func21, Tryz.ntmps21
    go_wp2_with fail
    refine T.out.mono ?_
    rintro e w1 ⟨rfl, h1, o1⟩
    have H1 := Lib.hid h1; have O1 := Lib.hid o1; clear h1 o1
    go_wp2_with fail
    go_end0
    exact ⟨rfl, H1.out, O1.out⟩
set_option maxRecDepth 100000 in
theorem sname_any (b : Nat) (all : List Tok) (σ : PR Unit) (w : World) (h : Sd w b all σ) :
    Calls Tryz.prog 20 #[.pointer (some ⟨b, 0, none⟩)] w (SAns w b all σ (fun _ (s : List UInt8) v => v = .string ⟨s.toArray⟩) strJ nameP) := by
  have h0 := h
  obtain ⟨r, e, h, rfl⟩ := h
  obtain ⟨g, off, c, N, t, r', rfl, i, c0, c1, c2, fz, hi, hc, hN, hcm, hgb, a1, a2, a3, a4⟩ := h.next
  have hiN : (i : Int) < (N : Int) := by omega
  by_cases hyes : e = 0 ∧ t.kind = 1
  · obtain ⟨rfl, hk⟩ := hyes
    have hp : ((stOf (t :: r') 0).bind fun _ => nameP) = .ok t.text r' := by
      show (if t.kind = 1 then PR.ok t.text r' else .bad t.at_ 4) = _
      rw [if_pos hk]
    have HP : ∀ w2, Sd w2 b all (.ok () r') → Only (fun k => k = b) w w2 → SAns w b all (stOf (t :: r') 0) (fun _ (s : List UInt8) v => v = .string ⟨s.toArray⟩) strJ nameP (.returned (.string ⟨t.text.toArray⟩)) w2 := fun w2 k1 k2 =>
      ⟨_, rfl, ⟨_, rfl⟩, by rw [hp]; exact k1, fun x q e => by rw [hp] at e; injection e with e _; rw [e], k2⟩
    have t1 : ((t.kind : Int) != 1) = false := by simp; omega
    have t2 : ((t.kind : Int) == 1) = true := by simp; omega
    have HPP := Lib.hid HP; have H := Lib.hid h; have HK := Lib.hid hk
    clear HP hp h h0 hk fz a2 a3 a4
    generalize (SAns w b all (stOf (t :: r') 0) (fun _ (s : List UInt8) v => v = .string ⟨s.toArray⟩) strJ nameP) = Q at *
    go_enter Tryz.func20, Tryz.ntmps20
    go_upto_region 1 with (fail)
    go_quiet (fail)
    clear c0 c1 c2 a1
    have ow1 : Only (fun _ => False) w (w.drewN nq) := (Only.refl _ w).drewN nq
    obtain ⟨w1, hw1⟩ : ∃ x, w.drewN nq = x := ⟨_, rfl⟩
    rw [hw1] at ow1
    rw [hw1]
    clear hw1
    have h1 := H.out.still ow1
    obtain ⟨g, off, c, N, t', r'', he, i, c0, c1, c2, fz, hi, hc, hN, hcm, hgb, a1, a2, a3, a4⟩ := h1.next
    injection he with he1 he2
    subst he1; subst he2
    have h3 := h1.step (by rw [HK.out]; decide) c1
    have hO : Only (fun k => k = b) w (w1.setCell ⟨b, 1, none⟩ (.int .i64 ((i : Int) + 1))) := (ow1.mono (T := fun k => k = b) (fun _ _ h => h.elim)).setCell (.inl rfl) _
    have hgb2 : g ≠ b := by omega
    have cc0 : (w1.setCell ⟨b, 1, none⟩ (.int .i64 ((i : Int) + 1))).cell? ⟨b, 0, none⟩ = some (.slice (some ⟨g, off, none⟩) N c) := by simp [go_sem, c0]
    have cc1 : (w1.setCell ⟨b, 1, none⟩ (.int .i64 ((i : Int) + 1))).cell? ⟨b, 1, none⟩ = some (.int .i64 ((i : Int) + 1)) := by simp [go_sem, c1]
    have cc2 : (w1.setCell ⟨b, 1, none⟩ (.int .i64 ((i : Int) + 1))).cell? ⟨g, off + i * 4 + 1, none⟩ = some (.string ⟨t.text.toArray⟩) := by simp [go_sem, a2, hgb2]
    obtain ⟨w2, hw2⟩ : ∃ w2, w1.setCell ⟨b, 1, none⟩ (.int .i64 ((i : Int) + 1)) = w2 := ⟨_, rfl⟩
    rw [hw2] at cc0 cc1 cc2 h3 hO
    have H3 := Lib.hid (show Sd w2 b all (.ok () r') from ⟨r', 0, h3, rfl⟩)
    have HO := Lib.hid hO; have HW2 := Lib.hid hw2; have CC := Lib.hid (And.intro cc0 (And.intro cc1 cc2)); clear hw2 cc0 cc1 cc2 h3 hO ow1 h1 a1 a2 a3 a4 H
    have j1 : (i : Int) + 1 ≤ (N : Int) := by omega
    have j2 : (i : Int) < (N : Int) := by omega
    have j3 : IntKind.i64.wrap ((i : Int) + 1 - 1) = (i : Int) := by rw [show (i : Int) + 1 - 1 = i from by omega]; exact IntWalk.i64_in _ (by omega)
    go_upto_region 5 with (fail)
    rw [HW2.out]
    clear c0 c1 c2 fz
    obtain ⟨cc0, cc1, cc2⟩ := CC.out
    go_quiet (fail)
    have HQ := Lib.hid (H3.out.still ((Only.refl (fun _ => False) w2).drewN nq)); have HOQ := Lib.hid (HO.out.drewN nq)
    clear cc0 cc1 cc2
    go_wp2_with fail
    first
      | exact HPP.out _ HQ.out HOQ.out
      | (go_ret; exact HPP.out _ HQ.out HOQ.out)
  · have hp : ((stOf (t :: r') e).bind fun _ => nameP).unit = flt (stOf (t :: r') e) 4 := by
      by_cases he : e = 0
      · subst he
        have hk : ¬ t.kind = 1 := fun hk => hyes ⟨rfl, hk⟩
        show PR.unit (if t.kind = 1 then PR.ok t.text r' else .bad t.at_ 4) = _
        rw [if_neg hk]; rfl
      · rw [st_bad he]; rfl
    have hno : ∀ x q, ((stOf (t :: r') e).bind fun _ => nameP) ≠ .ok x q := fun x q hx => by
      rw [show ((stOf (t :: r') e).bind fun _ => nameP).unit = .ok () q from by rw [hx]; rfl] at hp
      by_cases he : e = 0
      · subst he; cases hp
      · rw [st_bad he] at hp; cases hp
    have HP : ∀ w2, Sd w2 b all (flt (stOf (t :: r') e) 4) → Only (fun k => k = b) w w2 → SAns w b all (stOf (t :: r') e) (fun _ (s : List UInt8) v => v = .string ⟨s.toArray⟩) strJ nameP (.returned (.string ⟨#[]⟩)) w2 := fun w2 k1 k2 =>
      ⟨_, rfl, ⟨[], rfl⟩, by rw [hp]; exact k1, fun x q e => absurd e (hno x q), k2⟩
    have HPP := Lib.hid HP; have H0 := Lib.hid h0
    clear HP hp hno h h0 fz a2 a3 a4
    generalize (SAns w b all (stOf (t :: r') e) (fun _ (s : List UInt8) v => v = .string ⟨s.toArray⟩) strJ nameP) = Q at *
    by_cases he : e = 0
    · subst he
      have hk : ¬ t.kind = 1 := fun hk => hyes ⟨rfl, hk⟩
      have t1 : ((t.kind : Int) != 1) = true := by simp; omega
      have t2 : ((t.kind : Int) == 1) = false := by simp; omega
      clear hyes hk
      go_enter Tryz.func20, Tryz.ntmps20
      go_upto_region 1 with (fail)
      go_quiet (fail)
      clear c0 c1 c2 a1
      have J := Lib.hid (sfail_any b all _ 4 (by decide) (w.drewN nq) (H0.out.still ((Only.refl _ w).drewN nq)))
      go_wp2_with fail
      refine J.out.mono ?_
      rintro e w2 ⟨rfl, h2, o2⟩
      have HE := Lib.hid (HPP.out w2 h2 (((Only.refl _ w).drewN nq).trans o2)); clear h2 o2
      go_wp2_with fail
      first
        | exact HE.out
        | (go_ret; exact HE.out)
    · have t1 : ((e : Int) != 0) = true := by simp; omega
      have t2 : ((e : Int) == 0) = false := by simp; omega
      clear hyes he
      go_enter Tryz.func20, Tryz.ntmps20
      go_upto_region 1 with (fail)
      go_quiet (fail)
      clear c0 c1 c2 a1
      have J := Lib.hid (sfail_any b all _ 4 (by decide) (w.drewN nq) (H0.out.still ((Only.refl _ w).drewN nq)))
      go_wp2_with fail
      refine J.out.mono ?_
      rintro e w2 ⟨rfl, h2, o2⟩
      have HE := Lib.hid (HPP.out w2 h2 (((Only.refl _ w).drewN nq).trans o2)); clear h2 o2
      go_wp2_with fail
      first
        | exact HE.out
        | (go_ret; exact HE.out)
end Go.Proofs.YtgephneppgcnlaaGreatDoor
