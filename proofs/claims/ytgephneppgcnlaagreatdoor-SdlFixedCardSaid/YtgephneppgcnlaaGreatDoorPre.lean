/- parse.reader: what ends a reading; names; how much is open. -/
import Derived.Test.YtgephneppgcnlaaGreatDoorPrd
import Derived.IntWalk
namespace Go.Proofs.YtgephneppgcnlaaGreatDoor
open Go Go.RowKit
set_option linter.unusedVariables false
set_option linter.unusedSimpArgs false

/-- What the reader gives up by. -/
def faultV (e : Nat) : List PanicEntry := [{ v := .iface 128 (.agg #[.int .i64 (e : Int)]), recovered := false }]
/-- What a call of the reader comes to. -/
def Ans {α : Type} (w : World) (b : Nat) (all : List Tok) (dp : Int) (V : World → α → Value → Prop) (p : PR α) (e : Ending) (w' : World) : Prop :=
  match p with
  | .ok x r => ∃ v, e = .returned v ∧ V w' x v ∧ RdP w' b all r dp ∧ Only (fun k => k = b) w w'
  | .bad a c => e = .panicked (faultV c) ∧ (∃ r dp', RdP w' b all r dp' ∧ atT r = a ∧ dp ≤ dp' ∧ dp' ≤ dp + 1) ∧ Only (fun k => k = b) w w'
def strP (_ : World) (s : List UInt8) (v : Value) : Prop := v = .string ⟨s.toArray⟩
def unitP (_ : World) (_ : Unit) (v : Value) : Prop := v = .tuple #[]
set_option maxRecDepth 100000 in
theorem stop_any (b : Nat) (c : Nat) (w : World) : Calls Tryz.prog 90 #[.pointer (some ⟨b, 0, none⟩), .int .i64 (c : Int)] w fun e w' => e = .panicked (faultV c) ∧ w' = w := by
  go_enter Tryz.func90, Tryz.ntmps90
  go_wp2
  exact ⟨rfl, rfl, rfl⟩
set_option maxRecDepth 100000 in
theorem want_any (b : Nat) (all r : List Tok) (dp : Int) (s : List UInt8) (w : World) (h : RdP w b all r dp) :
    Calls Tryz.prog 87 #[.pointer (some ⟨b, 0, none⟩), .string ⟨s.toArray⟩] w (Ans w b all dp unitP (wantP s r)) := by
  have T := Lib.hid (take_any b all r dp s w h)
  unfold tookP at T
  unfold wantP
  cases ht : isT s r
  · rw [ht] at T
    have HP : ∀ w2, RdP w2 b all r dp → Only (fun k => k = b) w w2 → Ans w b all dp unitP (if false = true then .ok () r.tail else .bad (atT r) 4) (.panicked (faultV 4)) w2 := fun w2 h o => ⟨rfl, ⟨r, dp, h, rfl, by omega, by omega⟩, o⟩
    have HPP := Lib.hid HP; clear HP ht h
    generalize (Ans w b all dp unitP (if false = true then .ok () r.tail else .bad (atT r) 4)) = Q at *
    go_enter Tryz.func87, Tryz.ntmps87
    go_wp2_with fail
    refine T.out.mono ?_
    rintro e w1 ⟨rfl, h1, o1⟩
    have H1 := Lib.hid h1; have O1 := Lib.hid o1; clear h1 o1
    go_wp2_with fail
    refine (stop_any b 4 w1).mono ?_
    rintro e w2 ⟨rfl, rfl⟩
    exact ⟨rfl, HPP.out _ H1.out O1.out⟩
  · rw [ht] at T
    have HP : ∀ w2, RdP w2 b all r.tail dp → Only (fun k => k = b) w w2 → Ans w b all dp unitP (if true = true then .ok () r.tail else .bad (atT r) 4) (.returned (.tuple #[])) w2 := fun w2 h o => ⟨_, rfl, rfl, h, o⟩
    have HPP := Lib.hid HP; clear HP ht h
    generalize (Ans w b all dp unitP (if true = true then .ok () r.tail else .bad (atT r) 4)) = Q at *
    go_enter Tryz.func87, Tryz.ntmps87
    go_wp2_with fail
    refine T.out.mono ?_
    rintro e w1 ⟨rfl, h1, o1⟩
    have H1 := Lib.hid h1; have O1 := Lib.hid o1; clear h1 o1
    go_wp2_with fail
    go_end0
    exact HPP.out _ H1.out O1.out
set_option maxRecDepth 100000 in
theorem name_any (b : Nat) (all r : List Tok) (dp : Int) (w : World) (h : RdP w b all r dp) :
    Calls Tryz.prog 88 #[.pointer (some ⟨b, 0, none⟩)] w (Ans w b all dp strP (nameP r)) := by
  have T := Lib.hid (kind_any b all r dp 1 w h (by decide))
  have H := Lib.hid h
  obtain ⟨g, off, c, N, t, r', rfl, -⟩ := h.next
  clear h
  by_cases hk : t.kind = 1
  · have ht : isK 1 (t :: r') = true := decide_eq_true hk
    rw [ht] at T
    have HP : ∀ w2, RdP w2 b all r' dp → Only (fun k => k = b) w w2 → Ans w b all dp strP (nameP (t :: r')) (.returned (.string ⟨t.text.toArray⟩)) w2 := fun w2 h o => by
      show Ans w b all dp strP (if t.kind = 1 then .ok t.text r' else .bad t.at_ 4) _ _
      rw [if_pos hk]; exact ⟨_, rfl, rfl, h, o⟩
    have HPP := Lib.hid HP; have HK := Lib.hid hk; clear HP ht hk
    generalize (Ans w b all dp strP (nameP (t :: r'))) = Q at *
    go_enter Tryz.func88, Tryz.ntmps88
    go_wp2_with fail
    refine T.out.mono ?_
    rintro e w1 ⟨rfl, o1⟩
    have h1 := H.out.still o1
    obtain ⟨g, off, c, N, t', r'', he, i, c0, c1, c2, fz, hi, hc, hN, hcm, a1, a2, a3, a4⟩ := h1.next
    injection he with he1 he2
    subst he1; subst he2
    have h3 := h1.step (by rw [HK.out]; decide) c1
    have hO : Only (fun k => k = b) w (w1.setCell ⟨b, 1, none⟩ (.int .i64 ((i : Int) + 1))) := (o1.mono (T := fun k => k = b) (fun _ _ h => h.elim)).setCell (.inl rfl) _
    have hgb : g ≠ b := by
      obtain ⟨g', off', c', i', q1, q2, q3, -⟩ := h1.row
      simp [World.cell?, q1] at c0
      omega
    have H3 := Lib.hid h3; have HO := Lib.hid hO; clear h3 hO o1 h1
    have cc0 : (w1.setCell ⟨b, 1, none⟩ (.int .i64 ((i : Int) + 1))).cell? ⟨b, 0, none⟩ = some (.slice (some ⟨g, off, none⟩) N c) := by simp [go_sem, c0]
    have cc1 : (w1.setCell ⟨b, 1, none⟩ (.int .i64 ((i : Int) + 1))).cell? ⟨b, 1, none⟩ = some (.int .i64 ((i : Int) + 1)) := by simp [go_sem, c1]
    have cc2 : (w1.setCell ⟨b, 1, none⟩ (.int .i64 ((i : Int) + 1))).cell? ⟨g, off + i * 4 + 1, none⟩ = some (.string ⟨t.text.toArray⟩) := by simp [go_sem, a2, hgb]
    obtain ⟨w2, hw2⟩ : ∃ w2, w1.setCell ⟨b, 1, none⟩ (.int .i64 ((i : Int) + 1)) = w2 := ⟨_, rfl⟩
    rw [hw2] at cc0 cc1 cc2 H3 HO
    have HW2 := Lib.hid hw2; clear hw2
    have j1 : (i : Int) + 1 ≤ (N : Int) := by omega
    have j2 : (i : Int) < (N : Int) := by omega
    have j3 : IntKind.i64.wrap ((i : Int) + 1 - 1) = (i : Int) := by rw [show (i : Int) + 1 - 1 = i from by omega]; exact IntWalk.i64_in _ (by omega)
    go_upto_region 4 with (fail)
    rw [HW2.out]
    clear c0 c1 c2 fz a1 a2 a3 a4
    go_quiet (fail)
    have HQ := Lib.hid (H3.out.still ((Only.refl (fun _ => False) w2).drewN nq)); have HOQ := Lib.hid (HO.out.drewN nq)
    clear cc0 cc1 cc2
    go_wp2_with fail
    first
      | exact HPP.out _ HQ.out HOQ.out
      | (go_ret; exact HPP.out _ HQ.out HOQ.out)
  · have ht : isK 1 (t :: r') = false := decide_eq_false hk
    rw [ht] at T
    have HP : ∀ w2, RdP w2 b all (t :: r') dp → Only (fun k => k = b) w w2 → Ans w b all dp strP (nameP (t :: r')) (.panicked (faultV 4)) w2 := fun w2 h o => by
      show Ans w b all dp strP (if t.kind = 1 then .ok t.text r' else .bad t.at_ 4) _ _
      rw [if_neg hk]; exact ⟨rfl, ⟨_, dp, h, rfl, by omega, by omega⟩, o⟩
    have HPP := Lib.hid HP; clear HP ht hk
    generalize (Ans w b all dp strP (nameP (t :: r'))) = Q at *
    go_enter Tryz.func88, Tryz.ntmps88
    go_wp2_with fail
    refine T.out.mono ?_
    rintro e w1 ⟨rfl, o1⟩
    have H1 := Lib.hid (H.out.still o1); have O1 := Lib.hid (o1.mono (T := fun k => k = b) (fun _ _ h => h.elim)); clear o1
    go_wp2_with fail
    refine (stop_any b 4 w1).mono ?_
    rintro e w2 ⟨rfl, rfl⟩
    exact ⟨rfl, HPP.out _ H1.out O1.out⟩
set_option maxRecDepth 100000 in
theorem down_ok (b : Nat) (all r : List Tok) (dp : Int) (w : World) (h : RdP w b all r dp) (hd1 : 0 ≤ dp) (hd : dp < 24) :
    Calls Tryz.prog 84 #[.pointer (some ⟨b, 0, none⟩)] w fun e w' => e = .returned (.tuple #[]) ∧ RdP w' b all r (dp + 1) ∧ Only (fun k => k = b) w w' := by
  obtain ⟨g, off, c, N, t, r', hr, i, c0, c1, c2, fz, -⟩ := h.next
  have h3 := h.deep (dp + 1)
  have hO : Only (fun k => k = b) w (w.setCell ⟨b, 2, none⟩ (.int .i64 (dp + 1))) := (Only.refl (fun k => k = b) w).setCell (.inl rfl) _
  have H3 := Lib.hid h3; have HO := Lib.hid hO
  clear h h3 hO hr c0 c1
  have t1 : decide (dp + 1 > 24) = false := decide_eq_false (by omega)
  go_enter Tryz.func84, Tryz.ntmps84
  go_wp2_with fail
  go_end0
  exact ⟨rfl, H3.out, HO.out⟩
set_option maxRecDepth 100000 in
theorem down_bad (b : Nat) (all r : List Tok) (dp : Int) (w : World) (h : RdP w b all r dp) (hd1 : dp ≤ 100) (hd : 24 ≤ dp) :
    Calls Tryz.prog 84 #[.pointer (some ⟨b, 0, none⟩)] w fun e w' => e = .panicked (faultV 5) ∧ RdP w' b all r (dp + 1) ∧ Only (fun k => k = b) w w' := by
  obtain ⟨g, off, c, N, t, r', hr, i, c0, c1, c2, fz, -⟩ := h.next
  have h3 := h.deep (dp + 1)
  have hO : Only (fun k => k = b) w (w.setCell ⟨b, 2, none⟩ (.int .i64 (dp + 1))) := (Only.refl (fun k => k = b) w).setCell (.inl rfl) _
  have H3 := Lib.hid h3; have HO := Lib.hid hO
  clear h h3 hO hr c0 c1
  have t1 : decide (dp + 1 > 24) = true := decide_eq_true (by omega)
  go_enter Tryz.func84, Tryz.ntmps84
  go_wp2_with fail
  refine (stop_any b 5 _).mono ?_
  rintro e w2 ⟨rfl, rfl⟩
  exact ⟨rfl, rfl, H3.out, HO.out⟩
set_option maxRecDepth 100000 in
theorem up_d (b : Nat) (all r : List Tok) (dp : Int) (u : FrameMode) (w : World) (h : RdP w b all r dp) (hd1 : -1000000 ≤ dp) (hd2 : dp ≤ 1000000) :
    CallsD Tryz.prog 85 #[.pointer (some ⟨b, 0, none⟩)] u w fun e u' w' => u' = u ∧ e = .returned (.tuple #[]) ∧ RdP w' b all r (dp - 1) ∧ Only (fun k => k = b) w w' := by
  obtain ⟨g, off, c, N, t, r', hr, i, c0, c1, c2, fz, -⟩ := h.next
  have h3 := h.deep (dp - 1)
  have hO : Only (fun k => k = b) w (w.setCell ⟨b, 2, none⟩ (.int .i64 (dp - 1))) := (Only.refl (fun k => k = b) w).setCell (.inl rfl) _
  have H3 := Lib.hid h3; have HO := Lib.hid hO
  clear h h3 hO hr c0 c1
  go_enter_d Tryz.func85, Tryz.ntmps85
  go_wp2_with fail
  go_end0
  exact ⟨rfl, H3.out, HO.out⟩
/-- The deferred 'up', where a panic goes through the door. -/
theorem door_bad {fn : Func} {tmps : Array Value} {R : Ending → World → Prop} {b c : Nat} {all r : List Tok} {dp : Int} {w : World} (h : RdP w b all r dp) (hd1 : -1000000 ≤ dp) (hd2 : dp ≤ 1000000)
    (hR : ∀ w', RdP w' b all r (dp - 1) → Only (fun k => k = b) w w' → R (.panicked (faultV c)) w') :
    bodyPostD Tryz.prog fn R (Exit.panic (faultV c)) { tmps := tmps, defers := [{ target := Target.fn (Fn.func 85) #[], args := #[.pointer (some ⟨b, 0, none⟩)] }] } w := by
  refine leaves_cons (f := 85) (args := #[.pointer (some ⟨b, 0, none⟩)]) (by simp) (by simp [go_sem]) ?_
  refine (up_d b all r dp _ w h hd1 hd2).mono ?_
  rintro e u' w'' ⟨rfl, rfl, h2, o2⟩
  exact hR _ h2 o2
/-- The deferred 'up', where the call returns. -/
theorem door_ok {fn : Func} {tmps : Array Value} {R : Ending → World → Prop} {b : Nat} {all r : List Tok} {dp : Int} {w : World} (h : RdP w b all r dp) (hd1 : -1000000 ≤ dp) (hd2 : dp ≤ 1000000)
    (hR : ∀ w', RdP w' b all r (dp - 1) → Only (fun k => k = b) w w' → ∃ v, (results fn tmps).run Tryz.prog w' = .ok v w' ∧ R (.returned v) w') :
    bodyPostD Tryz.prog fn R Exit.ret { tmps := tmps, defers := [{ target := Target.fn (Fn.func 85) #[], args := #[.pointer (some ⟨b, 0, none⟩)] }] } w := by
  refine leaves_cons (f := 85) (args := #[.pointer (some ⟨b, 0, none⟩)]) (by simp) (by simp [go_sem]) ?_
  refine (up_d b all r dp _ w h hd1 hd2).mono ?_
  rintro e u' w'' ⟨rfl, rfl, h2, o2⟩
  exact hR _ h2 o2
end Go.Proofs.YtgephneppgcnlaaGreatDoor
