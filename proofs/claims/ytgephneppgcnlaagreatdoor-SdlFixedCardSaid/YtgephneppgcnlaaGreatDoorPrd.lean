/- parse.reader in memory; its small calls. -/
import Derived.Test.YtgephneppgcnlaaGreatDoorTrw
import Derived.Test.YtgephneppgcnlaaGreatDoorPrA
import Derived.Test.YtgephneppgcnlaaGreatDoorOwC
import Derived.Test.YtgephneppgcnlaaGreatDoorEnR
import Derived.Deep.QuietTactic
import Derived.BigQuiet
import Derived.Defers
namespace Go.Proofs.YtgephneppgcnlaaGreatDoor
open Go Go.RowKit
set_option linter.unusedVariables false
set_option linter.unusedSimpArgs false

/-- The reader at b stands ahead of the tokens r; dp things are open. -/
structure RdP (w : World) (b : Nat) (all r : List Tok) (dp : Int) : Prop where
  row : ∃ g off c i, w.heap[b]? = some (.cells #[.slice (some ⟨g, off, none⟩) all.length c, .int .i64 (i : Nat), .int .i64 dp] 118 (0, 0)) ∧ TRow w (.slice (some ⟨g, off, none⟩) all.length c) all ∧ g < b ∧ all.drop i = r ∧ i + r.length = all.length
  ends : EndR r
  few : all.length ≤ 1000000
theorem RdP.lt {w : World} {b : Nat} {all r : List Tok} {dp : Int} (h : RdP w b all r dp) : b < w.heap.size := by
  obtain ⟨g, off, c, i, h1, _⟩ := h.row
  exact (Array.getElem?_eq_some_iff.1 h1).1
/-- Where later blocks turn. -/
theorem RdP.only {S : Nat → Prop} {w w' : World} {b : Nat} {all r : List Tok} {dp : Int} (h : RdP w b all r dp) (ho : Only S w w') (hS : ∀ k, k ≤ b → ¬ S k) : RdP w' b all r dp := by
  obtain ⟨g, off, c, i, h1, h2, h3, h4, h5⟩ := h.row
  refine ⟨⟨g, off, c, i, ?_, ?_, h3, h4, h5⟩, h.ends, h.few⟩
  · rw [ho.block b h.lt (hS b (Nat.le_refl _))]; exact h1
  · refine h2.only (S := fun k => S k) ho (fun a n c' e => ?_)
    injection e with e
    injection e with e
    subst e
    exact hS g (by omega)
theorem RdP.still {w w' : World} {b : Nat} {all r : List Tok} {dp : Int} (h : RdP w b all r dp) (ho : Only (fun _ => False) w w') : RdP w' b all r dp := h.only ho (fun _ _ h => h)
/-- What the walk is told of the next token. -/
theorem RdP.next {w : World} {b : Nat} {all r : List Tok} {dp : Int} (h : RdP w b all r dp) : ∃ g off c N t r', r = t :: r' ∧ ∃ i : Nat, w.cell? ⟨b, 0, none⟩ = some (.slice (some ⟨g, off, none⟩) N c) ∧ w.cell? ⟨b, 1, none⟩ = some (.int .i64 (i : Int)) ∧ w.cell? ⟨b, 2, none⟩ = some (.int .i64 dp) ∧ (∀ o, w.frozen? ⟨b, o, none⟩ = false) ∧
    i < N ∧ N ≤ c ∧ N ≤ 1000000 ∧ c ≤ 9223372036854775807 ∧
    w.cell? ⟨g, off + i * 4, none⟩ = some (.int .u8 (t.kind : Int)) ∧ w.cell? ⟨g, off + i * 4 + 1, none⟩ = some (.string ⟨t.text.toArray⟩) ∧ w.cell? ⟨g, off + i * 4 + 2, none⟩ = some (.int .i64 t.n) ∧ w.cell? ⟨g, off + i * 4 + 3, none⟩ = some (.int .i64 (t.at_ : Int)) := by
  obtain ⟨g, off, c, i, h1, h2, h3, h4, h5⟩ := h.row
  have he := h.ends
  cases r with
  | nil => exact absurd he (by simp [EndR])
  | cons t r' =>
    have hi : i < all.length := by simp only [List.length_cons] at h5; omega
    obtain ⟨g', off', c', e, k1, k2, k3, HC⟩ := h2.at_ hi
    injection e with e e2 e3
    injection e with e
    injection e with e4 e5 _
    subst e4; subst e5; subst e3
    obtain ⟨a1, a2, a3, a4⟩ := HC i hi
    have ht : all[i] = t := by
      have := congrArg (fun l : List Tok => l[0]?) h4
      simp only [List.getElem?_drop, Nat.add_zero, List.getElem?_cons_zero] at this
      rw [List.getElem?_eq_getElem hi] at this
      exact Option.some.inj this
    rw [ht] at a1 a2 a3 a4
    unfold maxLen at k2
    exact ⟨g, off, c, all.length, t, r', rfl, i, by simp [World.cell?, h1], by simp [World.cell?, h1], by simp [World.cell?, h1], fun o => by simp [World.frozen?, h1], hi, k1, h.few, k2, a1, a2, a3, a4⟩
/-- One token further. -/
theorem RdP.step {w : World} {b : Nat} {all r' : List Tok} {t : Tok} {dp : Int} (h : RdP w b all (t :: r') dp) (hk : t.kind ≠ 0) {i : Int} (hi : w.cell? ⟨b, 1, none⟩ = some (.int .i64 i)) : RdP (w.setCell ⟨b, 1, none⟩ (.int .i64 (i + 1))) b all r' dp := by
  obtain ⟨g, off, c, j, h1, h2, h3, h4, h5⟩ := h.row
  have hj : i = (j : Int) := by
    simp [World.cell?, h1] at hi
    exact hi.symm
  subst hj
  have ho : Only (fun k => k = b) w (w.setCell ⟨b, 1, none⟩ (.int .i64 ((j : Int) + 1))) := (Only.refl (fun k => k = b) w).setCell (.inl rfl) _
  refine ⟨⟨g, off, c, j + 1, ?_, h2.only ho (fun a n c' e => ?_), h3, ?_, ?_⟩, h.ends.tail hk, h.few⟩
  · have := heap_set (o := 1) h1 (.int .i64 ((j : Int) + 1))
    rw [this]; simp
  · injection e with e
    injection e with e
    subst e
    show ¬ g = b; omega
  · rw [← List.drop_drop, h4]; rfl
  · simp only [List.length_cons] at h5; omega
theorem RdP.deep {w : World} {b : Nat} {all r : List Tok} {dp : Int} (h : RdP w b all r dp) (x : Int) : RdP (w.setCell ⟨b, 2, none⟩ (.int .i64 x)) b all r x := by
  obtain ⟨g, off, c, j, h1, h2, h3, h4, h5⟩ := h.row
  have ho : Only (fun k => k = b) w (w.setCell ⟨b, 2, none⟩ (.int .i64 x)) := (Only.refl (fun k => k = b) w).setCell (.inl rfl) _
  refine ⟨⟨g, off, c, j, ?_, h2.only ho (fun a n c' e => ?_), h3, h4, h5⟩, h.ends, h.few⟩
  · have := heap_set (o := 2) h1 (.int .i64 x)
    rw [this]; simp
  · injection e with e
    injection e with e
    subst e
    show ¬ g = b; omega
set_option maxRecDepth 100000 in
theorem is_any (b : Nat) (all r : List Tok) (dp : Int) (s : List UInt8) (w : World) (h : RdP w b all r dp) :
    Calls Tryz.prog 96 #[.pointer (some ⟨b, 0, none⟩), .string ⟨s.toArray⟩] w fun e w' => e = .returned (.bool (isS s r)) ∧ Only (fun _ => False) w w' := by
  obtain ⟨g, off, c, N, t, r', rfl, i, c0, c1, c2, fz, hi, hc, hN, hcm, a1, a2, a3, a4⟩ := h.next
  have hiN : (i : Int) < (N : Int) := by omega
  clear h c2 a3 a4 fz
  by_cases hk : t.kind = 4
  · have t1 : ((t.kind : Int) == 4) = true := by simp; omega
    have he : isS s (t :: r') = (t.text == s) := by
      show (decide (t.kind = 4) && decide (t.text = s)) = _
      rw [decide_eq_true hk, Bool.true_and, Bool.eq_iff_iff]
      simp only [decide_eq_true_eq, beq_iff_eq]
    rw [he]
    clear he hk
    go_enter Tryz.func96, Tryz.ntmps96
    go_wp2_with fail
    go_quiet (fail)
    go_wp2_with fail
    clear c0 c1 a1 a2 t1
    go_ret
    exact ⟨rfl, (Only.refl _ w).drewN nq⟩
  · have t1 : ((t.kind : Int) == 4) = false := by simp; omega
    have he : isS s (t :: r') = false := by
      show (decide (t.kind = 4) && decide (t.text = s)) = _
      rw [decide_eq_false hk, Bool.false_and]
    rw [he]
    clear he hk
    go_enter Tryz.func96, Tryz.ntmps96
    go_wp2_with fail
    go_quiet (fail)
    go_wp2_with fail
    clear c0 c1 a1 a2 t1
    go_ret
    exact ⟨rfl, (Only.refl _ w).drewN nq⟩
set_option maxRecDepth 100000 in
theorem word_any (b : Nat) (all r : List Tok) (dp : Int) (s : List UInt8) (w : World) (h : RdP w b all r dp) :
    Calls Tryz.prog 97 #[.pointer (some ⟨b, 0, none⟩), .string ⟨s.toArray⟩] w fun e w' => e = .returned (.bool (isW s r)) ∧ Only (fun _ => False) w w' := by
  obtain ⟨g, off, c, N, t, r', rfl, i, c0, c1, c2, fz, hi, hc, hN, hcm, a1, a2, a3, a4⟩ := h.next
  have hiN : (i : Int) < (N : Int) := by omega
  clear h c2 a3 a4 fz
  by_cases hk : t.kind = 1
  · have t1 : ((t.kind : Int) == 1) = true := by simp; omega
    have he : isW s (t :: r') = (t.text == s) := by
      show (decide (t.kind = 1) && decide (t.text = s)) = _
      rw [decide_eq_true hk, Bool.true_and, Bool.eq_iff_iff]
      simp only [decide_eq_true_eq, beq_iff_eq]
    rw [he]
    clear he hk
    go_enter Tryz.func97, Tryz.ntmps97
    go_wp2_with fail
    go_quiet (fail)
    go_wp2_with fail
    clear c0 c1 a1 a2 t1
    go_ret
    exact ⟨rfl, (Only.refl _ w).drewN nq⟩
  · have t1 : ((t.kind : Int) == 1) = false := by simp; omega
    have he : isW s (t :: r') = false := by
      show (decide (t.kind = 1) && decide (t.text = s)) = _
      rw [decide_eq_false hk, Bool.false_and]
    rw [he]
    clear he hk
    go_enter Tryz.func97, Tryz.ntmps97
    go_wp2_with fail
    go_quiet (fail)
    go_wp2_with fail
    clear c0 c1 a1 a2 t1
    go_ret
    exact ⟨rfl, (Only.refl _ w).drewN nq⟩
set_option maxRecDepth 100000 in
theorem kind_any (b : Nat) (all r : List Tok) (dp : Int) (k : Nat) (w : World) (h : RdP w b all r dp) (hk : k < 256) :
    Calls Tryz.prog 98 #[.pointer (some ⟨b, 0, none⟩), .int .u8 (k : Int)] w fun e w' => e = .returned (.bool (isK k r)) ∧ Only (fun _ => False) w w' := by
  obtain ⟨g, off, c, N, t, r', rfl, i, c0, c1, c2, fz, hi, hc, hN, hcm, a1, a2, a3, a4⟩ := h.next
  have hiN : (i : Int) < (N : Int) := by omega
  clear h c2 a2 a3 a4 fz
  have he : isK k (t :: r') = ((t.kind : Int) == (k : Int)) := by
    show decide (t.kind = k) = _
    rw [Bool.eq_iff_iff]
    simp
    omega
  rw [he]
  clear he
  go_enter Tryz.func98, Tryz.ntmps98
  go_wp2_with fail
  go_quiet (fail)
  go_wp2_with fail
  clear c0 c1 a1
  go_ret
  exact ⟨rfl, (Only.refl _ w).drewN nq⟩
def tookP (s : List UInt8) (r : List Tok) : List Tok := if isT s r then r.tail else r
set_option maxRecDepth 100000 in
theorem take_any (b : Nat) (all r : List Tok) (dp : Int) (s : List UInt8) (w : World) (h : RdP w b all r dp) :
    Calls Tryz.prog 86 #[.pointer (some ⟨b, 0, none⟩), .string ⟨s.toArray⟩] w fun e w' => e = .returned (.bool (isT s r)) ∧ RdP w' b all (tookP s r) dp ∧ Only (fun k => k = b) w w' := by
  have H := Lib.hid h; clear h
  have I := Lib.hid (is_any b all r dp s w H.out)
  obtain ⟨b1, hb1⟩ : ∃ b1, isS s r = b1 := ⟨_, rfl⟩
  obtain ⟨b2, hb2⟩ : ∃ b2, isW s r = b2 := ⟨_, rfl⟩
  have hT : isT s r = (b1 || b2) := by unfold isT; rw [hb1, hb2]
  have hyes : b1 = true ∨ b2 = true → ∃ t r', r = t :: r' ∧ t.kind ≠ 0 := fun h => by
    cases r with
    | nil => rcases h with h | h <;> (subst h; simp [isS, isW] at hb1 hb2)
    | cons t r' =>
      refine ⟨t, r', rfl, fun h0 => ?_⟩
      rcases h with h | h
      · subst h; simp [isS, h0] at hb1
      · subst h; simp [isW, h0] at hb2
  unfold tookP
  rw [hT]
  rw [hb1] at I
  have HY := Lib.hid hyes; have HB2 := Lib.hid hb2
  clear hyes hT hb1 hb2
  cases b1
  · go_enter Tryz.func86, Tryz.ntmps86
    go_wp2_with fail
    refine I.out.mono ?_
    rintro e w1 ⟨rfl, O1⟩
    have H1 := Lib.hid (H.out.still O1)
    have HO1 := Lib.hid O1; clear O1
    have W := Lib.hid (word_any b all r dp s w1 H1.out)
    rw [HB2.out] at W
    cases b2
    · go_wp2_with fail
      refine W.out.mono ?_
      rintro e w2 ⟨rfl, O2⟩
      have H2 := Lib.hid (H1.out.still O2)
      have HO2 := Lib.hid (HO1.out.trans O2); clear O2
      go_wp2_with fail
      go_ret
      exact ⟨rfl, H2.out, HO2.out.mono (fun _ _ h => h.elim)⟩
    · obtain ⟨t, r', rfl, hk⟩ := HY.out (.inr rfl)
      go_wp2_with fail
      refine W.out.mono ?_
      rintro e w2 ⟨rfl, O2⟩
      have h2 := H1.out.still O2
      obtain ⟨g, off, c, N, t', r'', he, i, c0, c1, c2, fz, hi, hc, hN, hcm, -⟩ := h2.next
      have h3 := h2.step hk c1
      have hO : Only (fun k => k = b) w (w2.setCell ⟨b, 1, none⟩ (.int .i64 ((i : Int) + 1))) := ((HO1.out.trans O2).mono (T := fun k => k = b) (fun _ _ h => h.elim)).setCell (.inl rfl) _
      have H3 := Lib.hid h3; have HO := Lib.hid hO
      clear h2 h3 hO O2 he
      go_wp2_with fail
      clear c0 c1 c2 fz
      go_ret
      exact ⟨rfl, H3.out, HO.out⟩
  · obtain ⟨t, r', rfl, hk⟩ := HY.out (.inl rfl)
    go_enter Tryz.func86, Tryz.ntmps86
    go_wp2_with fail
    refine I.out.mono ?_
    rintro e w2 ⟨rfl, O2⟩
    have h2 := H.out.still O2
    obtain ⟨g, off, c, N, t', r'', he, i, c0, c1, c2, fz, hi, hc, hN, hcm, -⟩ := h2.next
    have h3 := h2.step hk c1
    have hO : Only (fun k => k = b) w (w2.setCell ⟨b, 1, none⟩ (.int .i64 ((i : Int) + 1))) := (O2.mono (T := fun k => k = b) (fun _ _ h => h.elim)).setCell (.inl rfl) _
    have H3 := Lib.hid h3; have HO := Lib.hid hO
    clear h2 h3 hO O2 he
    go_wp2_with fail
    clear c0 c1 c2 fz
    go_ret
    exact ⟨rfl, H3.out, HO.out⟩
end Go.Proofs.YtgephneppgcnlaaGreatDoor
