/- Form: columbary/wire.form, of the kinds all. -/
import Derived.Test.YtoojnpafcdaflaaFrwA
import Derived.Test.YtoojnpafcdaflaaFrwB
import Derived.Test.YtoojnpafcdaflaaFrwC
import Derived.Test.YtoojnpafcdaflaaFrwD
namespace Go.Proofs.Ytoojnpafcdaflaa
open Go Go.RowKit
set_option linter.unusedVariables false
set_option linter.unusedSimpArgs false

theorem wFormIn : ∀ z, FormIH 71 z
  | 0 => fun t ht => by exfalso; obtain ⟨k, n, s, ks, vs⟩ := t; simp only [VT.mk.sizeOf_spec] at ht; omega
  | z + 1 => fun t ht G w cs d hv hd => by
    have ih := wFormIn z
    have h : (t.kind = 0 ∨ t.kind = 1 ∨ t.kind = 3) ∨ (t.kind = 2 ∨ t.kind = 4) ∨ (t.kind = 7 ∨ t.kind = 8 ∨ 9 ≤ t.kind) ∨ (t.kind = 5 ∨ t.kind = 6) := by omega
    rcases h with h | h | h | h
    · exact wFormIn_A z ih t ht h G w cs d hv hd
    · exact wFormIn_B z ih t ht h G w cs d hv hd
    · exact wFormIn_C z ih t ht h G w cs d hv hd
    · exact wFormIn_D z ih t ht h G w cs d hv hd
theorem wForm (t : VT) (G : Nat → Prop) (w : World) (cs : List Value) (hv : ValAt w G t cs) :
    Calls Try.prog 46 #[.agg cs.toArray] w (fun e w' => e = .returned (.bool (formV t 0)) ∧ Only (fun _ => False) w w') := by
  have hv' := hv
  obtain ⟨k, n, s, ak, lk, ck, av, lv, cv, rfl⟩ := valAt_form hv
  have hwb : ∃ wb, wb = w.alloc (.cells #[.int .u8 k, .int .i64 n, .string ⟨s.toArray⟩, .slice ak lk ck, .slice av lv cv] 35) := ⟨_, rfl⟩
  obtain ⟨wb, hwb⟩ := hwb
  have ob : Only (fun _ => False) w wb := by rw [hwb]; exact (Only.refl _ w).alloc _
  have h : Calls Try.prog 71 #[.agg #[.int .u8 k, .int .i64 n, .string ⟨s.toArray⟩, .slice ak lk ck, .slice av lv cv], .int .i64 0] wb _ := wFormIn (SizeOf.sizeOf t) t (Nat.le_refl _) G wb _ 0 (valAt_only ob (fun _ _ h => h) t _ hv') (by omega)
  rw [hwb] at h ob
  have H := Lib.hid h; have OB := Lib.hid ob; clear h ob hwb hv hv'
  go_enter Try.func46, Try.ntmps46
  go_wp2_with fail
  refine H.out.mono ?_
  rintro e w7 ⟨rfl, o7⟩
  have O7 := Lib.hid o7; clear o7
  go_wp2_with fail
  go_ret
  exact ⟨rfl, OB.out.trans O7.out⟩
end Go.Proofs.Ytoojnpafcdaflaa
