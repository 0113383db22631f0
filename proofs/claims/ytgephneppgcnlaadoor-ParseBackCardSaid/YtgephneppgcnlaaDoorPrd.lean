/- Tokens, in plain Lean: the end is last; a fault's number. parse.reader in memory; its small calls. -/
import Derived.Test.YtgephneppgcnlaaDoorPrA
import Derived.Test.YtgephneppgcnlaaDoorTrw
import Derived.Test.YtgephneppgcnlaaDoorOwC
import Derived.Deep.QuietTactic
import Derived.BigQuiet
import Derived.Defers
namespace Go.Proofs.YtgephneppgcnlaaDoor
set_option linter.unusedVariables false
set_option linter.unusedSimpArgs false

/-- Some tokens, the end last. -/
def EndR : List Tok → Prop
  | [] => False
  | [t] => t.kind = 0
  | _ :: t :: r => EndR (t :: r)
theorem EndR.tail {t : Tok} {r : List Tok} (h : EndR (t :: r)) (hk : t.kind ≠ 0) : EndR r := by
  cases r with
  | nil => exact absurd h hk
  | cons u r => exact h
theorem numP_bad {l : List UInt8} {o e : Nat} (h : numP l = .bad o e) : e ≠ 0 := by
  unfold numP at h
  simp only at h
  repeat' split at h
  all_goals first
    | (injection h with _ h; omega)
    | cases h
theorem txtP_bad : ∀ (m : Nat) (l acc : List UInt8) (k : Nat) {o e : Nat}, l.length ≤ m → txtP acc k l = .bad o e → e ≠ 0
  | _, [], acc, k, o, e, _, h => by
    rw [txtP.eq_def] at h; injection h with _ h; omega
  | 0, c :: l, acc, k, o, e, hl, h => by simp at hl
  | m + 1, c :: l, acc, k, o, e, hl, h => by
    simp only [List.length_cons] at hl
    rw [txtP.eq_def] at h
    simp only at h
    split at h
    · split at h
      · injection h with _ h; omega
      · cases h
    · split at h
      · injection h with _ h; omega
      · split at h
        · cases l with
          | nil => injection h with _ h; omega
          | cons d l' =>
            simp only [List.length_cons] at hl
            simp only at h
            split at h
            · exact txtP_bad m l' _ _ (by omega) h
            · split at h
              · exact txtP_bad m l' _ _ (by omega) h
              · split at h
                · exact txtP_bad m l' _ _ (by omega) h
                · injection h with _ h; omega
        · exact txtP_bad m l _ _ (by omega) h
theorem oneP_bad {l : List UInt8} {o e : Nat} (h : oneP l = .bad o e) : e ≠ 0 := by
  cases l with
  | nil => injection h with _ h; omega
  | cons c l =>
    rw [oneP_cons] at h
    split at h
    · split at h
      · injection h with _ h; omega
      · cases h
    · split at h
      · exact numP_bad h
      · split at h
        · exact txtP_bad _ l _ _ (Nat.le_refl _) h
        · split at h
          · cases h
          · split at h
            · cases h
            · injection h with _ h; omega
theorem toksF_bad : ∀ (f a : Nat) (l : List UInt8) {x e : Nat}, toksF f a l = .bad x e → e ≠ 0
  | 0, a, l, x, e, h => by injection h with _ h; omega
  | f + 1, a, [], x, e, h => by cases h
  | f + 1, a, c :: l, x, e, h => by
    unfold toksF at h
    split at h
    · exact toksF_bad f _ _ h
    · split at h
      · exact toksF_bad f _ _ h
      · split at h
        · rename_i hq; injection h with _ h; subst h; exact oneP_bad hq
        · exact toksF_bad f _ _ (Out.cons_bad h)
theorem toks_bad {s : List UInt8} {x e : Nat} (h : toks s = .bad x e) : e ≠ 0 := by
  unfold toks at h
  split at h
  · injection h with _ h; omega
  · exact toksF_bad _ _ _ h
theorem toksF_end : ∀ (f a : Nat) (l : List UInt8) {ts : List Tok}, toksF f a l = .ok ts → EndR ts ∧ ts.length ≤ l.length + 1
  | 0, a, l, ts, h => by cases h
  | f + 1, a, [], ts, h => by injection h with h; subst h; exact ⟨rfl, by simp⟩
  | f + 1, a, c :: l, ts, h => by
    unfold toksF at h
    split at h
    · have := toksF_end f _ _ h; exact ⟨this.1, by simp only [List.length_cons]; omega⟩
    · split at h
      · have := toksF_end f _ _ h; exact ⟨this.1, by rw [List.length_drop] at this; simp only [List.length_cons]; omega⟩
      · split at h
        · cases h
        · rename_i k t n len hq
          obtain ⟨us, h1, rfl⟩ := Out.cons_ok h
          have := toksF_end f _ _ h1
          have hl := oneP_len hq
          refine ⟨?_, ?_⟩
          · cases us with
            | nil => exact this.1.elim
            | cons u us => exact this.1
          · rw [List.length_drop] at this; simp only [List.length_cons] at this hl ⊢; omega
theorem toks_end {s : List UInt8} {ts : List Tok} (h : toks s = .ok ts) : EndR ts ∧ ts.length ≤ 2001 := by
  obtain ⟨h1, h2⟩ := toks_ok h
  have := toksF_end _ _ _ h2
  exact ⟨this.1, by omega⟩
end Go.Proofs.YtgephneppgcnlaaDoor
namespace Go.Proofs.YtgephneppgcnlaaDoor
open Go Go.RowKit
set_option linter.unusedVariables false
set_option linter.unusedSimpArgs false

/-- The reader at b stands ahead of the tokens r; dp things are open. -/
structure RdP (w : World) (b : Nat) (all r : List Tok) (dp : Int) : Prop where
  row : ∃ g off c i, w.heap[b]? = some (.cells #[.slice (some ⟨g, off, none⟩) all.length c, .int .i64 (i : Nat), .int .i64 dp] 78 (0, 0)) ∧ TRow w (.slice (some ⟨g, off, none⟩) all.length c) all ∧ g < b ∧ all.drop i = r ∧ i + r.length = all.length
  ends : EndR r
  few : all.length ≤ 1000000
theorem RdP.lt {w : World} {b : Nat} {all r : List Tok} {dp : Int} (h : RdP w b all r dp) : b < w.heap.size := by
  obtain ⟨g, off, c, i, h1, _⟩ := h.row
  exact (Array.getElem?_eq_some_iff.1 h1).1
/-- Where later blocks turn. -/
theorem RdP.only {S : Nat → Prop} {w w' : World} {b : Nat} {all r : List Tok} {dp : Int} (h : RdP w b all r dp) (ho : Only S w w') (hS : ∀ k, k ≤ b → ¬ S k) : RdP w' b all r dp := by
  obtain ⟨g, off, c, i, h1, h2, h3, h4, h5⟩ := h.row
  refine ⟨⟨g, off, c, i, ?_, ?_, h3, h4, h5⟩, h.ends, h.few⟩
  · rw [ho.block b h.lt (hS b (Nat.le_refl _))]; exact h1
  · refine h2.only (S := fun k => S k) ho (fun a n c' e => ?_)
    injection e with e
    injection e with e
    subst e
    exact hS g (by omega)
theorem RdP.still {w w' : World} {b : Nat} {all r : List Tok} {dp : Int} (h : RdP w b all r dp) (ho : Only (fun _ => False) w w') : RdP w' b all r dp := h.only ho (fun _ _ h => h)
/-- What the walk is told of the next token. -/
theorem RdP.next {w : World} {b : Nat} {all r : List Tok} {dp : Int} (h : RdP w b all r dp) : ∃ g off c N t r', r = t :: r' ∧ ∃ i : Nat, w.cell? ⟨b, 0, none⟩ = some (.slice (some ⟨g, off, none⟩) N c) ∧ w.cell? ⟨b, 1, none⟩ = some (.int .i64 (i : Int)) ∧ w.cell? ⟨b, 2, none⟩ = some (.int .i64 dp) ∧ (∀ o, w.frozen? ⟨b, o, none⟩ = false) ∧
    i < N ∧ N ≤ c ∧ N ≤ 1000000 ∧ c ≤ 9223372036854775807 ∧
    w.cell? ⟨g, off + i * 4, none⟩ = some (.int .u8 (t.kind : Int)) ∧ w.cell? ⟨g, off + i * 4 + 1, none⟩ = some (.string ⟨t.text.toArray⟩) ∧ w.cell? ⟨g, off + i * 4 + 2, none⟩ = some (.int .i64 t.n) ∧ w.cell? ⟨g, off + i * 4 + 3, none⟩ = some (.int .i64 (t.at_ : Int)) := by
  obtain ⟨g, off, c, i, h1, h2, h3, h4, h5⟩ := h.row
  have he := h.ends
  cases r with
  | nil => exact absurd he (by simp [EndR])
  | cons t r' =>
    have hi : i < all.length := by simp only [List.length_cons] at h5; omega
    obtain ⟨g', off', c', e, k1, k2, k3, HC⟩ := h2.at_ hi
    injection e with e e2 e3
    injection e with e
    injection e with e4 e5 _
    subst e4; subst e5; subst e3
    obtain ⟨a1, a2, a3, a4⟩ := HC i hi
    have ht : all[i] = t := by
      have := congrArg (fun l : List Tok => l[0]?) h4
      simp only [List.getElem?_drop, Nat.add_zero, List.getElem?_cons_zero] at this
      rw [List.getElem?_eq_getElem hi] at this
      exact Option.some.inj this
    rw [ht] at a1 a2 a3 a4
    unfold maxLen at k2
    exact ⟨g, off, c, all.length, t, r', rfl, i, by simp [World.cell?, h1], by simp [World.cell?, h1], by simp [World.cell?, h1], fun o => by simp [World.frozen?, h1], hi, k1, h.few, k2, a1, a2, a3, a4⟩
/-- One token further. -/
theorem RdP.step {w : World} {b : Nat} {all r' : List Tok} {t : Tok} {dp : Int} (h : RdP w b all (t :: r') dp) (hk : t.kind ≠ 0) {i : Int} (hi : w.cell? ⟨b, 1, none⟩ = some (.int .i64 i)) : RdP (w.setCell ⟨b, 1, none⟩ (.int .i64 (i + 1))) b all r' dp := by
  obtain ⟨g, off, c, j, h1, h2, h3, h4, h5⟩ := h.row
  have hj : i = (j : Int) := by
    simp [World.cell?, h1] at hi
    exact hi.symm
  subst hj
  have ho : Only (fun k => k = b) w (w.setCell ⟨b, 1, none⟩ (.int .i64 ((j : Int) + 1))) := (Only.refl (fun k => k = b) w).setCell (.inl rfl) _
  refine ⟨⟨g, off, c, j + 1, ?_, h2.only ho (fun a n c' e => ?_), h3, ?_, ?_⟩, h.ends.tail hk, h.few⟩
  · have := heap_set (o := 1) h1 (.int .i64 ((j : Int) + 1))
    rw [this]; simp
  · injection e with e
    injection e with e
    subst e
    show ¬ g = b; omega
  · rw [← List.drop_drop, h4]; rfl
  · simp only [List.length_cons] at h5; omega
theorem RdP.deep {w : World} {b : Nat} {all r : List Tok} {dp : Int} (h : RdP w b all r dp) (x : Int) : RdP (w.setCell ⟨b, 2, none⟩ (.int .i64 x)) b all r x := by
  obtain ⟨g, off, c, j, h1, h2, h3, h4, h5⟩ := h.row
  have ho : Only (fun k => k = b) w (w.setCell ⟨b, 2, none⟩ (.int .i64 x)) := (Only.refl (fun k => k = b) w).setCell (.inl rfl) _
  refine ⟨⟨g, off, c, j, ?_, h2.only ho (fun a n c' e => ?_), h3, h4, h5⟩, h.ends, h.few⟩
  · have := heap_set (o := 2) h1 (.int .i64 x)
    rw [this]; simp
  · injection e with e
    injection e with e
    subst e
    show ¬ g = b; omega
set_option maxRecDepth 100000 in
theorem is_any (b : Nat) (all r : List Tok) (dp : Int) (s : List UInt8) (w : World) (h : RdP w b all r dp) :
    Calls Tryd.prog 27 #[.pointer (some ⟨b, 0, none⟩), .string ⟨s.toArray⟩] w fun e w' => e = .returned (.bool (isS s r)) ∧ Only (fun _ => False) w w' := by
  obtain ⟨g, off, c, N, t, r', rfl, i, c0, c1, c2, fz, hi, hc, hN, hcm, a1, a2, a3, a4⟩ := h.next
  have hiN : (i : Int) < (N : Int) := by omega
  clear h c2 a3 a4 fz
  by_cases hk : t.kind = 4
  · have t1 : ((t.kind : Int) == 4) = true := by simp; omega
    have he : isS s (t :: r') = (t.text == s) := by
      show (decide (t.kind = 4) && decide (t.text = s)) = _
      rw [decide_eq_true hk, Bool.true_and, Bool.eq_iff_iff]
      simp only [decide_eq_true_eq, beq_iff_eq]
    rw [he]
    clear he hk
    go_enter Tryd.func27, Tryd.ntmps27
    go_wp2_with fail
    go_quiet (fail)
    go_wp2_with fail
    clear c0 c1 a1 a2 t1
    go_ret
    exact ⟨rfl, (Only.refl _ w).drewN nq⟩
  · have t1 : ((t.kind : Int) == 4) = false := by simp; omega
    have he : isS s (t :: r') = false := by
      show (decide (t.kind = 4) && decide (t.text = s)) = _
      rw [decide_eq_false hk, Bool.false_and]
    rw [he]
    clear he hk
    go_enter Tryd.func27, Tryd.ntmps27
    go_wp2_with fail
    go_quiet (fail)
    go_wp2_with fail
    clear c0 c1 a1 a2 t1
    go_ret
    exact ⟨rfl, (Only.refl _ w).drewN nq⟩
set_option maxRecDepth 100000 in
theorem word_any (b : Nat) (all r : List Tok) (dp : Int) (s : List UInt8) (w : World) (h : RdP w b all r dp) :
    Calls Tryd.prog 50 #[.pointer (some ⟨b, 0, none⟩), .string ⟨s.toArray⟩] w fun e w' => e = .returned (.bool (isW s r)) ∧ Only (fun _ => False) w w' := by
  obtain ⟨g, off, c, N, t, r', rfl, i, c0, c1, c2, fz, hi, hc, hN, hcm, a1, a2, a3, a4⟩ := h.next
  have hiN : (i : Int) < (N : Int) := by omega
  clear h c2 a3 a4 fz
  by_cases hk : t.kind = 1
  · have t1 : ((t.kind : Int) == 1) = true := by simp; omega
    have he : isW s (t :: r') = (t.text == s) := by
      show (decide (t.kind = 1) && decide (t.text = s)) = _
      rw [decide_eq_true hk, Bool.true_and, Bool.eq_iff_iff]
      simp only [decide_eq_true_eq, beq_iff_eq]
    rw [he]
    clear he hk
    go_enter Tryd.func50, Tryd.ntmps50
    go_wp2_with fail
    go_quiet (fail)
    go_wp2_with fail
    clear c0 c1 a1 a2 t1
    go_ret
    exact ⟨rfl, (Only.refl _ w).drewN nq⟩
  · have t1 : ((t.kind : Int) == 1) = false := by simp; omega
    have he : isW s (t :: r') = false := by
      show (decide (t.kind = 1) && decide (t.text = s)) = _
      rw [decide_eq_false hk, Bool.false_and]
    rw [he]
    clear he hk
    go_enter Tryd.func50, Tryd.ntmps50
    go_wp2_with fail
    go_quiet (fail)
    go_wp2_with fail
    clear c0 c1 a1 a2 t1
    go_ret
    exact ⟨rfl, (Only.refl _ w).drewN nq⟩
set_option maxRecDepth 100000 in
theorem kind_any (b : Nat) (all r : List Tok) (dp : Int) (k : Nat) (w : World) (h : RdP w b all r dp) (hk : k < 256) :
    Calls Tryd.prog 26 #[.pointer (some ⟨b, 0, none⟩), .int .u8 (k : Int)] w fun e w' => e = .returned (.bool (isK k r)) ∧ Only (fun _ => False) w w' := by
  obtain ⟨g, off, c, N, t, r', rfl, i, c0, c1, c2, fz, hi, hc, hN, hcm, a1, a2, a3, a4⟩ := h.next
  have hiN : (i : Int) < (N : Int) := by omega
  clear h c2 a2 a3 a4 fz
  have he : isK k (t :: r') = ((t.kind : Int) == (k : Int)) := by
    show decide (t.kind = k) = _
    rw [Bool.eq_iff_iff]
    simp
    omega
  rw [he]
  clear he
  go_enter Tryd.func26, Tryd.ntmps26
  go_wp2_with fail
  go_quiet (fail)
  go_wp2_with fail
  clear c0 c1 a1
  go_ret
  exact ⟨rfl, (Only.refl _ w).drewN nq⟩
def tookP (s : List UInt8) (r : List Tok) : List Tok := if isT s r then r.tail else r
set_option maxRecDepth 100000 in
theorem take_any (b : Nat) (all r : List Tok) (dp : Int) (s : List UInt8) (w : World) (h : RdP w b all r dp) :
    Calls Tryd.prog 29 #[.pointer (some ⟨b, 0, none⟩), .string ⟨s.toArray⟩] w fun e w' => e = .returned (.bool (isT s r)) ∧ RdP w' b all (tookP s r) dp ∧ Only (fun k => k = b) w w' := by
  have H := Lib.hid h; clear h
  have I := Lib.hid (is_any b all r dp s w H.out)
  obtain ⟨b1, hb1⟩ : ∃ b1, isS s r = b1 := ⟨_, rfl⟩
  obtain ⟨b2, hb2⟩ : ∃ b2, isW s r = b2 := ⟨_, rfl⟩
  have hT : isT s r = (b1 || b2) := by unfold isT; rw [hb1, hb2]
  have hyes : b1 = true ∨ b2 = true → ∃ t r', r = t :: r' ∧ t.kind ≠ 0 := fun h => by
    cases r with
    | nil => rcases h with h | h <;> (subst h; simp [isS, isW] at hb1 hb2)
    | cons t r' =>
      refine ⟨t, r', rfl, fun h0 => ?_⟩
      rcases h with h | h
      · subst h; simp [isS, h0] at hb1
      · subst h; simp [isW, h0] at hb2
  unfold tookP
  rw [hT]
  rw [hb1] at I
  have HY := Lib.hid hyes; have HB2 := Lib.hid hb2
  clear hyes hT hb1 hb2
  cases b1
  · go_enter Tryd.func29, Tryd.ntmps29
    go_wp2_with fail
    refine I.out.mono ?_
    rintro e w1 ⟨rfl, O1⟩
    have H1 := Lib.hid (H.out.still O1)
    have HO1 := Lib.hid O1; clear O1
    have W := Lib.hid (word_any b all r dp s w1 H1.out)
    rw [HB2.out] at W
    cases b2
    · go_wp2_with fail
      refine W.out.mono ?_
      rintro e w2 ⟨rfl, O2⟩
      have H2 := Lib.hid (H1.out.still O2)
      have HO2 := Lib.hid (HO1.out.trans O2); clear O2
      go_wp2_with fail
      go_ret
      exact ⟨rfl, H2.out, HO2.out.mono (fun _ _ h => h.elim)⟩
    · obtain ⟨t, r', rfl, hk⟩ := HY.out (.inr rfl)
      go_wp2_with fail
      refine W.out.mono ?_
      rintro e w2 ⟨rfl, O2⟩
      have h2 := H1.out.still O2
      obtain ⟨g, off, c, N, t', r'', he, i, c0, c1, c2, fz, hi, hc, hN, hcm, -⟩ := h2.next
      have h3 := h2.step hk c1
      have hO : Only (fun k => k = b) w (w2.setCell ⟨b, 1, none⟩ (.int .i64 ((i : Int) + 1))) := ((HO1.out.trans O2).mono (T := fun k => k = b) (fun _ _ h => h.elim)).setCell (.inl rfl) _
      have H3 := Lib.hid h3; have HO := Lib.hid hO
      clear h2 h3 hO O2 he
      go_wp2_with fail
      clear c0 c1 c2 fz
      go_ret
      exact ⟨rfl, H3.out, HO.out⟩
  · obtain ⟨t, r', rfl, hk⟩ := HY.out (.inl rfl)
    go_enter Tryd.func29, Tryd.ntmps29
    go_wp2_with fail
    refine I.out.mono ?_
    rintro e w2 ⟨rfl, O2⟩
    have h2 := H.out.still O2
    obtain ⟨g, off, c, N, t', r'', he, i, c0, c1, c2, fz, hi, hc, hN, hcm, -⟩ := h2.next
    have h3 := h2.step hk c1
    have hO : Only (fun k => k = b) w (w2.setCell ⟨b, 1, none⟩ (.int .i64 ((i : Int) + 1))) := (O2.mono (T := fun k => k = b) (fun _ _ h => h.elim)).setCell (.inl rfl) _
    have H3 := Lib.hid h3; have HO := Lib.hid hO
    clear h2 h3 hO O2 he
    go_wp2_with fail
    clear c0 c1 c2 fz
    go_ret
    exact ⟨rfl, H3.out, HO.out⟩
end Go.Proofs.YtgephneppgcnlaaDoor
