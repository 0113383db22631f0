/- . -/
import Derived.Test.YtnkpoddbbdmipaaGreatDoorTApPrk
import Derived.Test.YtnkpoddbbdmipaaGreatDoorTApOwD
import Derived.Test.YtnkpoddbbdmipaaGreatDoorTApSvg
import Derived.Test.YtnkpoddbbdmipaaGreatDoorTApSms
import Derived.Deep.QuietTactic
import Derived.BigQuiet
namespace Go.Proofs.YtnkpoddbbdmipaaGreatDoor
open Go Go.RowKit
open Go.Lib (hid)
set_option linter.unusedVariables false
set_option linter.unusedSimpArgs false
theorem ar_ext {a b : AR} (h1 : a.name = b.name) (h2 : a.v = b.v) : a = b := by
 cases a; cases b
 simp only at h1 h2; subst h1; subst h2; rfl
theorem dr_ext {a b : DR} (h1 : a.name = b.name) (h2 : a.args = b.args) : a = b := by
 cases a; cases b
 simp only at h1 h2; subst h1; subst h2; rfl
set_option maxRecDepth 100000 in
set_option maxHeartbeats 16000000 in
theorem sameArgs_any (gs ms : List AR) (R : Bool) (hR : R = true ↔ gs = ms) (G G' : Nat → Prop) (w : World) (v u : Value) (h : CellAt w G (.row 6 (gs.map argC)) v) (h' : CellAt w G' (.row 6 (ms.map argC)) u) :
  Calls Tryz.prog 78 #[v, u] w (fun e w' => e = .returned (.bool R) ∧ Only (fun _ => False) w w') := by
 obtain ⟨a, c, rfl, k1, k2, k3⟩ := rows_at h; obtain ⟨a', c', rfl, k1', k2', k3'⟩ := rows_at h'; obtain ⟨L, hL⟩ := eX (gs.length)
 by_cases hd : gs.length ≠ ms.length
 ·have e : R = false := by
   cases R with
   | false => rfl
   | true => exact absurd (congrArg List.length (hR.1 rfl)) hd
  subst e; obtain ⟨l2, hl2⟩ := eX (ms.length); rw [hL, hl2] at hd; rw [hL, hl2]; have t1 : ((L : Int) == (l2 : Int)) = false := by simp; omega
  have t2 : ((L : Int) != (l2 : Int)) = true := by simp; omega
  clear hL hl2 hd k3 k3' h h' hR
  go_enter Tryz.func78, Tryz.ntmps78
  go_wp2_with fail
  go_ret
  exact ⟨rfl, oR⟩
 have hE : gs.length = ms.length := Classical.byContradiction hd; rw [← hE] at k1' ⊢; rw [hL] at k1 k1' ⊢; have HR := hid hR; have HEQ := hid hE; clear hR hE hd; have HL := hid hL; have HK := hid k3; have HK' := hid k3'; clear hL k3 k3' h h'
 go_enter Tryz.func78, Tryz.ntmps78
 go_wp2_with fail
 go_loopw [5] (fun v wr => ∃ i : Nat, v = .int .i64 (i : Int) ∧ i ≤ L ∧ Hid (Only (fun _ => False) w wr ∧ gs.take i = ms.take i)) (fun v _ => L - (intOf v).toNat)
 case atStart => exact ⟨0, by simp, by omega, hid ⟨oR, rfl⟩⟩
 case round =>
  obtain ⟨i, rfl, hi, HOT⟩ := hrel; have HO := hid HOT.out.1; have HTK := hid HOT.out.2; clear HOT
  by_cases hlt : i < L
  ·have t3 : decide ((i : Int) < (L : Int)) = true := by simpa using hlt
   have hi0 : (0 : Int) ≤ (i : Int) := by omega
   have hi1 : (i : Int) < (L : Int) := by omega
   have hil : i < gs.length := by rw [HL.out]; exact hlt
   have hjl0 : i < ms.length := by rw [← HEQ.out]; exact hil
   obtain ⟨R1, hR1⟩ := sm_ex gs[i] ms[i]; have HNX := hid (fun e : R1 = true => take_snoc HTK.out hil hjl0 (hR1.1 e))
   have HNR := hid (show R1 = false → R = false from fun e => by
    have h1 := get_ne hil hjl0 (fun h => by have := hR1.2 h; rw [e] at this; cases this)
    cases R with
    | false => rfl
    | true => exact absurd (HR.out.1 rfl) h1)
   obtain ⟨RV, hRV⟩ := sm_ex gs[i].v ms[i].v; have hall : R1 = true ↔ (gs[i].name = ms[i].name ∧ RV = true) := by
    rw [hR1, hRV]; exact ⟨fun e => by rw [e]; exact ⟨rfl, rfl⟩, fun ⟨e1, e2⟩ => ar_ext e1 e2⟩
   obtain ⟨g, o, xs, rfl, -, q1, q2⟩ := HK.out i hil; obtain ⟨g', o', xs', rfl, -, q1', q2'⟩ := HK'.out i hjl0; obtain ⟨us, rfl, hu⟩ := arg_cells q2; obtain ⟨us', rfl, hu'⟩ := arg_cells q2'; have hrec := fun (wx : World) (ox : Only (fun _ => False) w wx) => sameV_any _ _ RV hRV (CellsAt.only ox (fun _ _ h => h) _ _ hu) (CellsAt.only ox (fun _ _ h => h) _ _ hu')
   obtain ⟨vk, vn, vs, va, vl, vc, va2, vl2, vc2, rfl⟩ := valC_form2 hu; obtain ⟨uk, un, us, ua, ul, uc, ua2, ul2, uc2, rfl⟩ := valC_form2 hu'; obtain ⟨e0, e1, e2, e3, e4, e5⟩ := cells6_of q1; obtain ⟨f0, f1, f2, f3, f4, f5⟩ := cells6_of q1'; clear hR1 hRV
   generalize gs[i].name = nm at *
   generalize ms[i].name = nm' at *
   have HALL := hid hall; clear hall
   by_cases hnm : nm = nm'
   rotate_left
   ·have hRf : R = false := HNR.out (by
     cases R1 with
     | false => rfl
     | true => exact absurd (HALL.out.1 rfl) (fun h => hnm h.1))
    subst hRf; have e0 := keepc HO.out e0; have f0 := keepc HO.out f0; have z1a : (nm == nm') = false := by simpa using hnm
    have z1b : (nm != nm') = true := by simpa using hnm
    clear hrec q1 q1' q2 q2' hu hu' e1 e2 e3 e4 e5 f1 f2 f3 f4 f5 HNX HNR HTK hil hjl0
    go_upto_region 6 with (fail)
    go_quiet (fail)
    clear e0 f0
    go_wp2_with fail
    go_ret
    exact ⟨rfl, HO.out.trans ((Only.refl _ wr).drewN nq)⟩
   subst hnm; have HX := hid (fun (wx : World) (ox : Only (fun _ => False) wr.drew wx) => have ow := HO.out.trans ((Only.refl _ wr).drew.trans ox); And.intro (keepc ow e0) (And.intro (keepc ow e1) (And.intro (keepc ow e2) (And.intro (keepc ow e3) (And.intro (keepc ow e4) (And.intro (keepc ow e5) (And.intro (keepc ow f0) (And.intro (keepc ow f1) (And.intro (keepc ow f2) (And.intro (keepc ow f3) (And.intro (keepc ow f4) (keepc ow f5)))))))))))); have HREC := hid (fun (wx : World) (ox : Only (fun _ => False) wr.drew wx) => hrec wx (HO.out.trans ((Only.refl _ wr).drew.trans ox))); clear hrec hil hjl0 q1 q1' q2 q2' hu hu' e0 e1 e2 e3 e4 e5 f0 f1 f2 f3 f4 f5
   go_upto_region 6 with (fail)
   refine wp_region_steps 24 (by kernel_rfl) rfl (by kernel_rfl) [some 17, some 18, some 19, some 20, some 21, some 22, some 23, some 24, some 25, some 26, some 27, some 28, some 29, some 30, some 31, some 32, some 33, some 34, some 35, some 36, some 37, some 38, some 39, some 40] rfl rfl (fun _ => False) [(fun v _ => v = (.slice (some ⟨g, o, none⟩) L c)), (fun v _ => v = (.int .i64 (i : Int))), (fun v _ => v = (.pointer (some ⟨g, o + i * 6, none⟩))), (fun v _ => v = (.pointer (some ⟨g, o + i * 6, none⟩))), (fun v _ => v = (.string ⟨nm.toArray⟩)), (fun v _ => v = (.slice (some ⟨g', o', none⟩) L c')), (fun v _ => v = (.int .i64 (i : Int))), (fun v _ => v = (.pointer (some ⟨g', o' + i * 6, none⟩))), (fun v _ => v = (.pointer (some ⟨g', o' + i * 6, none⟩))), (fun v _ => v = (.string ⟨nm.toArray⟩)), (fun v _ => v = (.bool false)), (fun v _ => v = (.bool false)), (fun v _ => v = (.slice (some ⟨g, o, none⟩) L c)), (fun v _ => v = (.int .i64 (i : Int))), (fun v _ => v = (.pointer (some ⟨g, o + i * 6, none⟩))), (fun v _ => v = (.pointer (some ⟨g, o + i * 6 + 1, none⟩))), (fun v _ => v = (.agg #[.int .u8 (vk : Int), .int .i64 vn, .string ⟨vs.toArray⟩, .slice va vl vc, .slice va2 vl2 vc2])), (fun v _ => v = (.slice (some ⟨g', o', none⟩) L c')), (fun v _ => v = (.int .i64 (i : Int))), (fun v _ => v = (.pointer (some ⟨g', o' + i * 6, none⟩))), (fun v _ => v = (.pointer (some ⟨g', o' + i * 6 + 1, none⟩))), (fun v _ => v = (.agg #[.int .u8 (uk : Int), .int .i64 un, .string ⟨us.toArray⟩, .slice ua ul uc, .slice ua2 ul2 uc2])), (fun v _ => v = (.bool RV)), (fun v _ => v = (.bool (!RV)))] rfl ⟨?_, ?_, ?_, ?_, ?_, ?_, ?_, ?_, ?_, ?_, ?_, ?_, ?_, ?_, ?_, ?_, ?_, ?_, ?_, ?_, ?_, ?_, ?_, ?_, trivial⟩ _ rfl ⟨?_, ?_, ?_, ?_, ?_, ?_, ?_, ?_, ?_, ?_, ?_, ?_, ?_, ?_, ?_, ?_, ?_, ?_, ?_, ?_, ?_, ?_, ?_, ?_, trivial⟩ ?_
   iterate 24 exact Stable.is _ _
   ·intro x wx ox hN TT HTT; unfold StepTo; simp only [putAll, Act.put, zA, zB, zC]; clear hN
    go_wp2_with fail
    exact ⟨rfl, _, rfl, HTT.out _ _ rfl oR⟩
   ·intro x wx ox hN TT HTT; unfold StepTo; simp only [putAll, Act.put, zA, zB, zC]; clear hN
    go_wp2_with fail
    exact ⟨rfl, _, rfl, HTT.out _ _ rfl oR⟩
   ·intro x wx ox hN TT HTT; unfold StepTo; simp only [putAll, Act.put, zA, zB, zC, eI (hN.1 rfl), eI (hN.2.1 rfl)]; clear hN
    go_wp2_with fail
    exact ⟨rfl, _, rfl, HTT.out _ _ rfl oR⟩
   ·intro x wx ox hN TT HTT; unfold StepTo; simp only [putAll, Act.put, zA, zB, zC, eI (hN.1 rfl)]; clear hN
    go_wp2_with fail
    exact ⟨rfl, _, rfl, HTT.out _ _ rfl oR⟩
   ·intro x wx ox hN TT HTT; unfold StepTo; simp only [putAll, Act.put, zA, zB, zC, eI (hN.1 rfl)]; clear hN; obtain ⟨m1, m2, m3, m4, m5, m6, n1, n2, n3, n4, n5, n6⟩ := HX.out wx ox
    go_wp2_with fail
    exact ⟨rfl, _, rfl, HTT.out _ _ rfl oR⟩
   ·intro x wx ox hN TT HTT; unfold StepTo; simp only [putAll, Act.put, zA, zB, zC]; clear hN
    go_wp2_with fail
    exact ⟨rfl, _, rfl, HTT.out _ _ rfl oR⟩
   ·intro x wx ox hN TT HTT; unfold StepTo; simp only [putAll, Act.put, zA, zB, zC]; clear hN
    go_wp2_with fail
    exact ⟨rfl, _, rfl, HTT.out _ _ rfl oR⟩
   ·intro x wx ox hN TT HTT; unfold StepTo; simp only [putAll, Act.put, zA, zB, zC, eI (hN.1 rfl), eI (hN.2.1 rfl)]; clear hN
    go_wp2_with fail
    exact ⟨rfl, _, rfl, HTT.out _ _ rfl oR⟩
   ·intro x wx ox hN TT HTT; unfold StepTo; simp only [putAll, Act.put, zA, zB, zC, eI (hN.1 rfl)]; clear hN
    go_wp2_with fail
    exact ⟨rfl, _, rfl, HTT.out _ _ rfl oR⟩
   ·intro x wx ox hN TT HTT; unfold StepTo; simp only [putAll, Act.put, zA, zB, zC, eI (hN.1 rfl)]; clear hN; obtain ⟨m1, m2, m3, m4, m5, m6, n1, n2, n3, n4, n5, n6⟩ := HX.out wx ox
    go_wp2_with fail
    exact ⟨rfl, _, rfl, HTT.out _ _ rfl oR⟩
   ·intro x wx ox hN TT HTT; unfold StepTo; simp only [putAll, Act.put, zA, zB, zC, eI (hN.1 rfl), eI (hN.2.1 rfl)]; clear hN
    go_wp2_with fail
    exact ⟨rfl, _, rfl, HTT.out _ _ rfl oR⟩
   ·intro x wx ox hN TT HTT; unfold StepTo; simp only [putAll, Act.put, zA, zB, zC, eI (hN.1 rfl)]; clear hN
    go_wp2_with fail
    exact ⟨rfl, _, rfl, HTT.out _ _ rfl oR⟩
   ·intro x wx ox hN TT HTT; unfold StepTo; simp only [putAll, Act.put, zA, zB, zC, eI (hN.1 rfl)]; clear hN
    go_wp2_with fail
    exact ⟨rfl, _, rfl, HTT.out _ _ rfl oR⟩
   ·intro x wx ox hN TT HTT; unfold StepTo; simp only [putAll, Act.put, zA, zB, zC, eI (hN.1 rfl)]; clear hN
    go_wp2_with fail
    exact ⟨rfl, _, rfl, HTT.out _ _ rfl oR⟩
   ·intro x wx ox hN TT HTT; unfold StepTo; simp only [putAll, Act.put, zA, zB, zC, eI (hN.1 rfl), eI (hN.2.1 rfl), eI (hN.2.2.1 rfl)]; clear hN
    go_wp2_with fail
    exact ⟨rfl, _, rfl, HTT.out _ _ rfl oR⟩
   ·intro x wx ox hN TT HTT; unfold StepTo; simp only [putAll, Act.put, zA, zB, zC, eI (hN.1 rfl), eI (hN.2.1 rfl)]; clear hN
    go_wp2_with fail
    exact ⟨rfl, _, rfl, HTT.out _ _ rfl oR⟩
   ·intro x wx ox hN TT HTT; unfold StepTo; simp only [putAll, Act.put, zA, zB, zC, eI (hN.1 rfl), eI (hN.2.1 rfl)]; clear hN; obtain ⟨m1, m2, m3, m4, m5, m6, n1, n2, n3, n4, n5, n6⟩ := HX.out wx ox
    go_wp2_with fail
    exact ⟨rfl, _, rfl, HTT.out _ _ rfl oR⟩
   ·intro x wx ox hN TT HTT; unfold StepTo; simp only [putAll, Act.put, zA, zB, zC, eI (hN.1 rfl)]; clear hN
    go_wp2_with fail
    exact ⟨rfl, _, rfl, HTT.out _ _ rfl oR⟩
   ·intro x wx ox hN TT HTT; unfold StepTo; simp only [putAll, Act.put, zA, zB, zC, eI (hN.1 rfl)]; clear hN
    go_wp2_with fail
    exact ⟨rfl, _, rfl, HTT.out _ _ rfl oR⟩
   ·intro x wx ox hN TT HTT; unfold StepTo; simp only [putAll, Act.put, zA, zB, zC, eI (hN.1 rfl), eI (hN.2.1 rfl), eI (hN.2.2.1 rfl)]; clear hN
    go_wp2_with fail
    exact ⟨rfl, _, rfl, HTT.out _ _ rfl oR⟩
   ·intro x wx ox hN TT HTT; unfold StepTo; simp only [putAll, Act.put, zA, zB, zC, eI (hN.1 rfl), eI (hN.2.1 rfl)]; clear hN
    go_wp2_with fail
    exact ⟨rfl, _, rfl, HTT.out _ _ rfl oR⟩
   ·intro x wx ox hN TT HTT; unfold StepTo; simp only [putAll, Act.put, zA, zB, zC, eI (hN.1 rfl), eI (hN.2.1 rfl)]; clear hN; obtain ⟨m1, m2, m3, m4, m5, m6, n1, n2, n3, n4, n5, n6⟩ := HX.out wx ox
    go_wp2_with fail
    exact ⟨rfl, _, rfl, HTT.out _ _ rfl oR⟩
   ·intro x wx ox hN TT HTT; unfold StepTo; simp only [putAll, Act.put, zA, zB, zC, eI (hN.1 rfl), eI (hN.2.1 rfl), eI (hN.2.2.1 rfl)]; clear hN; have ht := HREC.out wx ox; have HT := hid ht; clear ht
    go_wp2_with fail
    refine HT.out.mono ?_
    rintro e w6 ⟨rfl, o6⟩; have O6 := hid o6; clear o6
    go_wp2_with fail
    exact ⟨rfl, _, rfl, HTT.out _ _ rfl (O6.out)⟩
   ·intro x wx ox hN TT HTT; unfold StepTo; simp only [putAll, Act.put, zA, zB, zC, eI (hN.1 rfl), eI (hN.2.1 rfl)]; clear hN
    go_wp2_with fail
    exact ⟨rfl, _, rfl, HTT.out _ _ rfl oR⟩
   intro xz wxz oxz hN; simp only [putAll, Act.put, zA, zB, zC, eI hN.1, eI hN.2.1, eI hN.2.2.1, eI hN.2.2.2.1, eI hN.2.2.2.2.1, eI hN.2.2.2.2.2.1, eI hN.2.2.2.2.2.2.1, eI hN.2.2.2.2.2.2.2.1, eI hN.2.2.2.2.2.2.2.2.1, eI hN.2.2.2.2.2.2.2.2.2.1, eI hN.2.2.2.2.2.2.2.2.2.2.1, eI hN.2.2.2.2.2.2.2.2.2.2.2.1, eI hN.2.2.2.2.2.2.2.2.2.2.2.2.1, eI hN.2.2.2.2.2.2.2.2.2.2.2.2.2.1, eI hN.2.2.2.2.2.2.2.2.2.2.2.2.2.2.1, eI hN.2.2.2.2.2.2.2.2.2.2.2.2.2.2.2.1, eI hN.2.2.2.2.2.2.2.2.2.2.2.2.2.2.2.2.1, eI hN.2.2.2.2.2.2.2.2.2.2.2.2.2.2.2.2.2.1, eI hN.2.2.2.2.2.2.2.2.2.2.2.2.2.2.2.2.2.2.1, eI hN.2.2.2.2.2.2.2.2.2.2.2.2.2.2.2.2.2.2.2.1, eI hN.2.2.2.2.2.2.2.2.2.2.2.2.2.2.2.2.2.2.2.2.1, eI hN.2.2.2.2.2.2.2.2.2.2.2.2.2.2.2.2.2.2.2.2.2.1, eI hN.2.2.2.2.2.2.2.2.2.2.2.2.2.2.2.2.2.2.2.2.2.2.1, eI hN.2.2.2.2.2.2.2.2.2.2.2.2.2.2.2.2.2.2.2.2.2.2.2.1]; clear hN; have OZ := hid (HO.out.trans ((Only.refl _ wr).drew.trans oxz)); clear oxz
   cases RV with
   | false =>
    have hRf : R = false := HNR.out (by
     cases R1 with
     | false => rfl
     | true => exact absurd (HALL.out.1 rfl) (fun h => by cases h.2))
    subst hRf
    go_wp2_with fail
    go_ret
    exact ⟨rfl, OZ.out⟩
   | true =>
    have HNX2 := hid (HNX.out (HALL.out.2 (by simp)))
    go_wp2_with fail
    go_roundw
    case rel => exact ⟨i + 1, by simp [go_sem], by omega, hid ⟨OZ.out, HNX2.out⟩⟩
    case measure => simp [intOf]; omega
  ·have hke : i = L := by omega
   subst hke; have t3 : decide ((i : Int) < (i : Int)) = false := by simp
   go_wp2_with fail
   have hRt : R = true := HR.out.2 (take_all HTK.out HL.out (by rw [← HEQ.out]; exact HL.out)); subst hRt
   go_ret
   exact ⟨rfl, HO.out⟩
def SameSG (z : Nat) : Prop := ∀ (l m : List SL) (R : Bool), (R = true ↔ l = m) → SizeOf.sizeOf l ≤ z → ∀ (G G' : Nat → Prop) (w : World) (v u : Value), CellAt w G (.row 7 (l.map selC)) v → CellAt w G' (.row 7 (m.map selC)) u →
  Calls Tryz.prog 51 #[v, u] w (fun e w' => e = .returned (.bool R) ∧ Only (fun _ => False) w w')
set_option maxRecDepth 100000 in
set_option maxHeartbeats 16000000 in
theorem sameSG_step (z : Nat) (ih : SameSG z) : SameSG (z + 1) := by
 intro l m R hR hz G G' w v u h h'; obtain ⟨a, c, rfl, k1, k2, k3⟩ := rows_at h; obtain ⟨a', c', rfl, k1', k2', k3'⟩ := rows_at h'; obtain ⟨L, hL⟩ := eX (l.length)
 by_cases hd : l.length ≠ m.length
 ·have e : R = false := by
   cases R with
   | false => rfl
   | true => exact absurd (congrArg List.length (hR.1 rfl)) hd
  subst e; obtain ⟨l2, hl2⟩ := eX (m.length); rw [hL, hl2] at hd; rw [hL, hl2]; have t1 : ((L : Int) == (l2 : Int)) = false := by simp; omega
  have t2 : ((L : Int) != (l2 : Int)) = true := by simp; omega
  clear hL hl2 hd k3 k3' h h' hR ih hz
  go_enter Tryz.func51, Tryz.ntmps51
  go_wp2_with fail
  go_ret
  exact ⟨rfl, oR⟩
 have hE : l.length = m.length := Classical.byContradiction hd; rw [← hE] at k1' ⊢; rw [hL] at k1 k1' ⊢; have HR := hid hR; have HEQ := hid hE; clear hR hE hd; have HL := hid hL; have HK := hid k3; have HK' := hid k3'; have IH := hid ih; have HZ := hid hz; clear hL k3 k3' h h' ih hz
 go_enter Tryz.func51, Tryz.ntmps51
 go_wp2_with fail
 go_loopw [5] (fun v wr => ∃ i : Nat, v = .int .i64 (i : Int) ∧ i ≤ L ∧ Hid (Only (fun _ => False) w wr ∧ l.take i = m.take i)) (fun v _ => L - (intOf v).toNat)
 case atStart => exact ⟨0, by simp, by omega, hid ⟨oR, rfl⟩⟩
 case round =>
  obtain ⟨i, rfl, hi, HOT⟩ := hrel; have HO := hid HOT.out.1; have HTK := hid HOT.out.2; clear HOT
  by_cases hlt : i < L
  ·have t3 : decide ((i : Int) < (L : Int)) = true := by simpa using hlt
   have hi0 : (0 : Int) ≤ (i : Int) := by omega
   have hi1 : (i : Int) < (L : Int) := by omega
   have hil : i < l.length := by rw [HL.out]; exact hlt
   have hjl0 : i < m.length := by rw [← HEQ.out]; exact hil
   obtain ⟨R1, hR1⟩ := sm_ex l[i] m[i]; have HNX := hid (fun e : R1 = true => take_snoc HTK.out hil hjl0 (hR1.1 e))
   have HNR := hid (show R1 = false → R = false from fun e => by
    have h1 := get_ne hil hjl0 (fun h => by have := hR1.2 h; rw [e] at this; cases this)
    cases R with
    | false => rfl
    | true => exact absurd (HR.out.1 rfl) h1)
   obtain ⟨g, o, xs, rfl, -, q1, q2⟩ := HK.out i hil; obtain ⟨g', o', xs', rfl, -, q1', q2'⟩ := HK'.out i hjl0; obtain ⟨k, al, nm, on_, gs, ds, sub, hsl⟩ : ∃ k al nm on_ gs ds sub, l[i] = .mk k al nm on_ gs ds sub := by
    cases hq : l[i] with
    | mk k al nm on_ gs ds sub => exact ⟨_, _, _, _, _, _, _, rfl⟩
   obtain ⟨k', al', nm', on', gs', ds', sub', hsl'⟩ : ∃ k al nm on_ gs ds sub, m[i] = .mk k al nm on_ gs ds sub := by
    cases hq : m[i] with
    | mk k al nm on_ gs ds sub => exact ⟨_, _, _, _, _, _, _, rfl⟩
   have hsz := sizeOf_sub hsl; obtain ⟨RA, hRA⟩ := sm_ex gs gs'; obtain ⟨RS, hRS⟩ := sm_ex sub sub'
   have HALL := hid (show R1 = true ↔ (k = k' ∧ al = al' ∧ nm = nm' ∧ on_ = on' ∧ RA = true ∧ ds = ds' ∧ RS = true) by
    rw [hR1, hRA, hRS, hsl, hsl']
    exact ⟨fun e => by injection e with e1 e2 e3 e4 e5 e6 e7; exact ⟨e1, e2, e3, e4, e5, e6, e7⟩, fun ⟨e1, e2, e3, e4, e5, e6, e7⟩ => by rw [e1, e2, e3, e4, e5, e6, e7]⟩)
   rw [hsl] at q2; rw [hsl'] at q2'; obtain ⟨gv, dv, sv, rfl, hg, hd, hs⟩ := sel_cells q2; obtain ⟨gv', dv', sv', rfl, hg', hd', hs'⟩ := sel_cells q2'; have hga := fun (wx : World) (ox : Only (fun _ => False) w wx) => sameArgs_any gs gs' RA hRA G G' wx _ _ (CellAt.only ox (fun _ _ h => h) _ _ hg) (CellAt.only ox (fun _ _ h => h) _ _ hg')
   have hsa := fun (wx : World) (ox : Only (fun _ => False) w wx) => IH.out sub sub' RS hRS (by have := HZ.out; omega) G G' wx _ _ (CellAt.only ox (fun _ _ h => h) _ _ hs) (CellAt.only ox (fun _ _ h => h) _ _ hs')
   obtain ⟨ag, cg, rfl, -, -, -⟩ := rows_at hg; obtain ⟨ag', cg', rfl, -, -, -⟩ := rows_at hg'; obtain ⟨ad, cd, rfl, n1, n2, n3⟩ := rows_at hd; obtain ⟨ad', cd', rfl, n1', n2', n3'⟩ := rows_at hd'; obtain ⟨as_, cs_, rfl, -, -, -⟩ := rows_at hs; obtain ⟨as', cs', rfl, -, -, -⟩ := rows_at hs'; obtain ⟨LG, hLG⟩ := eX (gs.length); obtain ⟨LD, hLD⟩ := eX (ds.length); obtain ⟨LS, hLS⟩ := eX (sub.length); obtain ⟨LG', hLG'⟩ : ∃ L, gs'.length = L := ⟨_, rfl⟩; obtain ⟨LD', hLD'⟩ : ∃ L, ds'.length = L := ⟨_, rfl⟩; obtain ⟨LS', hLS'⟩ : ∃ L, sub'.length = L := ⟨_, rfl⟩; rw [hLG] at hga q1; rw [hLG'] at hga q1'; rw [hLD] at q1 n1; rw [hLD'] at q1' n1'; rw [hLS] at hsa q1; rw [hLS'] at hsa q1'; obtain ⟨e0, e1, e2, e3, e4, e5, e6⟩ := cells7_of q1; obtain ⟨f0, f1, f2, f3, f4, f5, f6⟩ := cells7_of q1'; have e0 := keepc HO.out e0; have e1 := keepc HO.out e1; have e2 := keepc HO.out e2; have e3 := keepc HO.out e3; have e4 := keepc HO.out e4; have e5 := keepc HO.out e5; have e6 := keepc HO.out e6; have f0 := keepc HO.out f0; have f1 := keepc HO.out f1; have f2 := keepc HO.out f2; have f3 := keepc HO.out f3; have f4 := keepc HO.out f4; have f5 := keepc HO.out f5; have f6 := keepc HO.out f6; have f0 := keepc ((Only.refl _ wr).alloc (.cells #[.int .u8 (k : Int), .string ⟨al.toArray⟩, .string ⟨nm.toArray⟩, .string ⟨on_.toArray⟩, .slice ag LG cg, .slice ad LD cd, .slice as_ LS cs_] 53)) f0; have f1 := keepc ((Only.refl _ wr).alloc (.cells #[.int .u8 (k : Int), .string ⟨al.toArray⟩, .string ⟨nm.toArray⟩, .string ⟨on_.toArray⟩, .slice ag LG cg, .slice ad LD cd, .slice as_ LS cs_] 53)) f1; have f2 := keepc ((Only.refl _ wr).alloc (.cells #[.int .u8 (k : Int), .string ⟨al.toArray⟩, .string ⟨nm.toArray⟩, .string ⟨on_.toArray⟩, .slice ag LG cg, .slice ad LD cd, .slice as_ LS cs_] 53)) f2; have f3 := keepc ((Only.refl _ wr).alloc (.cells #[.int .u8 (k : Int), .string ⟨al.toArray⟩, .string ⟨nm.toArray⟩, .string ⟨on_.toArray⟩, .slice ag LG cg, .slice ad LD cd, .slice as_ LS cs_] 53)) f3
   have f4 := keepc ((Only.refl _ wr).alloc (.cells #[.int .u8 (k : Int), .string ⟨al.toArray⟩, .string ⟨nm.toArray⟩, .string ⟨on_.toArray⟩, .slice ag LG cg, .slice ad LD cd, .slice as_ LS cs_] 53)) f4; have f5 := keepc ((Only.refl _ wr).alloc (.cells #[.int .u8 (k : Int), .string ⟨al.toArray⟩, .string ⟨nm.toArray⟩, .string ⟨on_.toArray⟩, .slice ag LG cg, .slice ad LD cd, .slice as_ LS cs_] 53)) f5; have f6 := keepc ((Only.refl _ wr).alloc (.cells #[.int .u8 (k : Int), .string ⟨al.toArray⟩, .string ⟨nm.toArray⟩, .string ⟨on_.toArray⟩, .slice ag LG cg, .slice ad LD cd, .slice as_ LS cs_] 53)) f6; obtain ⟨wb, hwb⟩ := eX ((wr.alloc (.cells #[.int .u8 (k : Int), .string ⟨al.toArray⟩, .string ⟨nm.toArray⟩, .string ⟨on_.toArray⟩, .slice ag LG cg, .slice ad LD cd, .slice as_ LS cs_] 53)).alloc (.cells #[.int .u8 (k' : Int), .string ⟨al'.toArray⟩, .string ⟨nm'.toArray⟩, .string ⟨on'.toArray⟩, .slice ag' LG' cg', .slice ad' LD' cd', .slice as' LS' cs'] 53)); obtain ⟨wa, hwa⟩ := eX (wr.alloc (.cells #[.int .u8 (k : Int), .string ⟨al.toArray⟩, .string ⟨nm.toArray⟩, .string ⟨on_.toArray⟩, .slice ag LG cg, .slice ad LD cd, .slice as_ LS cs_] 53)); have ob : Only (fun _ => False) wr wb := by rw [← hwb]; exact ((Only.refl _ wr).alloc _).alloc _
   obtain ⟨bA, hbA⟩ := eX (wr.heap.size); obtain ⟨bB, hbB⟩ := eX (bA + 1); have hx1 : wb.heap[bA]? = some (.cells #[.int .u8 (k : Int), .string ⟨al.toArray⟩, .string ⟨nm.toArray⟩, .string ⟨on_.toArray⟩, .slice ag LG cg, .slice ad LD cd, .slice as_ LS cs_] 53 (0, 0)) := by rw [← hwb, ← hbA]; exact heap_old (heap_new wr _) _
   have hx2 : wb.heap[bB]? = some (.cells #[.int .u8 (k' : Int), .string ⟨al'.toArray⟩, .string ⟨nm'.toArray⟩, .string ⟨on'.toArray⟩, .slice ag' LG' cg', .slice ad' LD' cd', .slice as' LS' cs'] 53 (0, 0)) := by
    rw [← hwb, ← hbB, ← hbA]; have := heap_new (wr.alloc (.cells #[.int .u8 (k : Int), .string ⟨al.toArray⟩, .string ⟨nm.toArray⟩, .string ⟨on_.toArray⟩, .slice ag LG cg, .slice ad LD cd, .slice as_ LS cs_] 53)) (.cells #[.int .u8 (k' : Int), .string ⟨al'.toArray⟩, .string ⟨nm'.toArray⟩, .string ⟨on'.toArray⟩, .slice ag' LG' cg', .slice ad' LD' cd', .slice as' LS' cs'] 53); rw [World.size_alloc] at this; exact this
   have hsa1 : wa.heap.size = bB := by rw [← hwa, World.size_alloc, hbA, hbB]
   rw [hwa] at hwb f0 f1 f2 f3 f4 f5 f6; obtain ⟨c0, c1, c2, c3, c4, c5, c6, -⟩ := boxN7 hx1; obtain ⟨d0, d1, d2, d3, d4, d5, d6, -⟩ := boxN7 hx2; have HOB := hid (HO.out.trans ob); have HGA := hid (fun (wx : World) (ox : Only (fun _ => False) wb wx) => hga wx (HOB.out.trans ox)); have HSA := hid (fun (wx : World) (ox : Only (fun _ => False) wb wx) => hsa wx (HOB.out.trans ox)); have HND := hid n3; have HND' := hid n3'; have HWA := hid hwa; have HWB := hid hwb; have HBA := hid hbA; have HSA1 := hid hsa1; have HLD := hid hLD; have HLD2 := hid hLD'; have HC := hid (And.intro (c0) (And.intro (c1) (And.intro (c2) (And.intro (c3) (And.intro (c4) (And.intro (c5) (And.intro (c6) (And.intro (d0) (And.intro (d1) (And.intro (d2) (And.intro (d3) (And.intro (d4) (And.intro (d5) (d6)))))))))))))); clear hga hsa n3 n3' hwa hwb hbA hbB hsa1 hLD hLG hLS hLD' hLG' hLS' hRA hRS hR1 hil hjl0 hx1 hx2 ob hg hd hs hg' hd' hs' q1 q1' q2 q2' hsz hsl hsl' c0 c1 c2 c3 c4 c5 c6 d0 d1 d2 d3 d4 d5 d6
   go_upto_region 7 with (fail)
   rw [HWA.out, HBA.out]; clear e0 e1 e2 e3 e4 e5 e6
   go_upto_region 8 with (fail)
   rw [HWB.out, HSA1.out]; clear f0 f1 f2 f3 f4 f5 f6; obtain ⟨c0, c1, c2, c3, c4, c5, c6, d0, d1, d2, d3, d4, d5, d6⟩ := HC.out
   by_cases g1 : k = k'
   rotate_left
   ·have hRf : R = false := HNR.out (by
     cases R1 with
     | false => rfl
     | true => exact absurd (HALL.out.1 rfl) (fun h => g1 h.1))
    subst hRf; have z1a : ((k : Int) == (k' : Int)) = false := by simp; omega
    have z1b : ((k : Int) != (k' : Int)) = true := by simp; omega
    go_wp2_with fail
    clear c0 c1 c2 c3 c4 c5 c6 d0 d1 d2 d3 d4 d5 d6
    go_ret
    exact ⟨rfl, HOB.out⟩
   subst g1
   by_cases g2 : al = al'
   rotate_left
   ·have hRf : R = false := HNR.out (by
     cases R1 with
     | false => rfl
     | true => exact absurd (HALL.out.1 rfl) (fun h => g2 h.2.1))
    subst hRf; have z2a : (al == al') = false := by simpa using g2
    have z2b : (al != al') = true := by simpa using g2
    go_wp2_with fail
    clear c0 c1 c2 c3 c4 c5 c6 d0 d1 d2 d3 d4 d5 d6
    go_ret
    exact ⟨rfl, HOB.out⟩
   subst g2
   by_cases g3 : nm = nm'
   rotate_left
   ·have hRf : R = false := HNR.out (by
     cases R1 with
     | false => rfl
     | true => exact absurd (HALL.out.1 rfl) (fun h => g3 h.2.2.1))
    subst hRf; have z3a : (nm == nm') = false := by simpa using g3
    have z3b : (nm != nm') = true := by simpa using g3
    go_wp2_with fail
    clear c0 c1 c2 c3 c4 c5 c6 d0 d1 d2 d3 d4 d5 d6
    go_ret
    exact ⟨rfl, HOB.out⟩
   subst g3
   by_cases g4 : on_ = on'
   rotate_left
   ·have hRf : R = false := HNR.out (by
     cases R1 with
     | false => rfl
     | true => exact absurd (HALL.out.1 rfl) (fun h => g4 h.2.2.2.1))
    subst hRf; have z4a : (on_ == on') = false := by simpa using g4
    have z4b : (on_ != on') = true := by simpa using g4
    go_wp2_with fail
    clear c0 c1 c2 c3 c4 c5 c6 d0 d1 d2 d3 d4 d5 d6
    go_ret
    exact ⟨rfl, HOB.out⟩
   subst g4
   go_wp2_with fail
   refine (HGA.out wb oR).mono ?_
   rintro e w6 ⟨rfl, o6⟩; have c0 := keepc o6 c0; have c1 := keepc o6 c1; have c2 := keepc o6 c2; have c3 := keepc o6 c3; have c4 := keepc o6 c4; have c5 := keepc o6 c5; have c6 := keepc o6 c6; have d0 := keepc o6 d0; have d1 := keepc o6 d1; have d2 := keepc o6 d2; have d3 := keepc o6 d3; have d4 := keepc o6 d4; have d5 := keepc o6 d5; have d6 := keepc o6 d6; have HO6 := hid o6; clear o6
   cases RA with
   | false =>
    have hRf : R = false := HNR.out (by
     cases R1 with
     | false => rfl
     | true => exact absurd (HALL.out.1 rfl) (fun h => by cases h.2.2.2.2.1))
    subst hRf
    go_wp2_with fail
    clear c0 c1 c2 c3 c4 c5 c6 d0 d1 d2 d3 d4 d5 d6
    go_ret
    exact ⟨rfl, HOB.out.trans HO6.out⟩
   | true =>
   by_cases g5 : LD = LD'
   rotate_left
   ·have hRf : R = false := HNR.out (by
     cases R1 with
     | false => rfl
     | true => exact absurd (HALL.out.1 rfl) (fun h => g5 (by have h := h.2.2.2.2.2.1; rw [← HLD.out, ← HLD2.out, h])))
    subst hRf; have z5a : ((LD : Int) == (LD' : Int)) = false := by simp; omega
    have z5b : ((LD : Int) != (LD' : Int)) = true := by simp; omega
    go_wp2_with fail
    clear c0 c1 c2 c3 c4 c5 c6 d0 d1 d2 d3 d4 d5 d6
    go_ret
    exact ⟨rfl, HOB.out.trans HO6.out⟩
   subst g5
   go_wp2_with fail
   refine (HSA.out w6 HO6.out).mono ?_
   rintro e w7 ⟨rfl, o7⟩; have HO7 := hid (HO6.out.trans o7); clear o7
   cases RS with
   | false =>
    have hRf : R = false := HNR.out (by
     cases R1 with
     | false => rfl
     | true => exact absurd (HALL.out.1 rfl) (fun h => by cases h.2.2.2.2.2.2))
    subst hRf; clear c0 c1 c2 c3 c4 c5 c6 d0 d1 d2 d3 d4 d5 d6
    go_wp2_with fail
    go_ret
    exact ⟨rfl, HOB.out.trans HO7.out⟩
   | true =>
   have HNS := hid (show ds = ds' → l.take (i + 1) = m.take (i + 1) from fun e => HNX.out (HALL.out.2 (by simp [e])))
   have HNN := hid (show ds ≠ ds' → R = false from fun e => HNR.out (by
    cases R1 with
    | false => rfl
    | true => exact absurd (HALL.out.1 rfl).2.2.2.2.2.1 e))
   clear HNX HNR HALL HTK; clear c0 c1 c2 c3 c4 c5 c6 d0 d1 d2 d3 d4 d5 d6
   go_wp2_with fail
   go_loopw [8] (fun v wr => ∃ j : Nat, v = .int .i64 (j : Int) ∧ j ≤ LD ∧ Hid (Only (fun _ => False) wb wr ∧ ds.take j = ds'.take j)) (fun v _ => LD - (intOf v).toNat)
   case atStart => exact ⟨0, by simp, by omega, hid ⟨HO7.out, rfl⟩⟩
   case round =>
    clear HO7 HO6; obtain ⟨j, rfl, hj, HPT⟩ := hrel; have HP := hid HPT.out.1; have HTJ := hid HPT.out.2; clear HPT; obtain ⟨c0, c1, c2, c3, c4, c5, c6, d0, d1, d2, d3, d4, d5, d6⟩ := HC.out; have c5 := keepc HP.out c5; have d5 := keepc HP.out d5; clear c0 c1 c2 c3 c4 c6 d0 d1 d2 d3 d4 d6
    by_cases hltj : j < LD
    ·have t4 : decide ((j : Int) < (LD : Int)) = true := by simpa using hltj
     have hj0 : (0 : Int) ≤ (j : Int) := by omega
     have hj1 : (j : Int) < (LD : Int) := by omega
     have hjl : j < ds.length := by rw [HLD.out]; exact hltj
     have hjm : j < ds'.length := by rw [HLD2.out]; exact hltj
     obtain ⟨R2, hR2⟩ := sm_ex ds[j] ds'[j]; obtain ⟨RD, hRD⟩ := sm_ex ds[j].args ds'[j].args; have HNX := hid (fun e : R2 = true => take_snoc HTJ.out hjl hjm (hR2.1 e)); have HNR := hid (show R2 = false → R = false from fun e => HNN.out (get_ne hjl hjm (fun h => by have := hR2.2 h; rw [e] at this; cases this))); have hall : R2 = true ↔ (ds[j].name = ds'[j].name ∧ RD = true) := by
      rw [hR2, hRD]; exact ⟨fun e => by rw [e]; exact ⟨rfl, rfl⟩, fun ⟨e1, e2⟩ => dr_ext e1 e2⟩
     obtain ⟨gd, od, ys, rfl, -, p1, p2⟩ := HND.out j hjl; obtain ⟨gd', od', ys', rfl, -, p1', p2'⟩ := HND'.out j hjm; obtain ⟨av, rfl, ha⟩ := dir_cells p2; obtain ⟨av', rfl, ha'⟩ := dir_cells p2'; have hrec := fun (wx : World) (ox : Only (fun _ => False) w wx) => sameArgs_any _ _ RD hRD G G' wx _ _ (CellAt.only ox (fun _ _ h => h) _ _ ha) (CellAt.only ox (fun _ _ h => h) _ _ ha')
     obtain ⟨ax, cx, rfl, -, -, -⟩ := rows_at ha; obtain ⟨ax', cx', rfl, -, -, -⟩ := rows_at ha'; obtain ⟨e0, e1⟩ := cells2_of p1; obtain ⟨f0, f1⟩ := cells2_of p1'; clear hR2 hRD
     generalize ds[j].name = dn at *
     generalize ds[j].args.length = LX at *
     generalize ds'[j].name = dn' at *
     generalize ds'[j].args.length = LX' at *
     have HALL := hid hall; clear hall
     by_cases hnm : dn = dn'
     rotate_left
     ·have hRf : R = false := HNR.out (by
       cases R2 with
       | false => rfl
       | true => exact absurd (HALL.out.1 rfl) (fun h => hnm h.1))
      subst hRf; have e0 := keepc (HOB.out.trans HP.out) e0; have f0 := keepc (HOB.out.trans HP.out) f0; have z1a : (dn == dn') = false := by simpa using hnm
      have z1b : (dn != dn') = true := by simpa using hnm
      clear hrec p1 p1' p2 p2' ha ha' e1 f1 HNX HNR HTJ hjl hjm
      go_upto_region 13 with (fail)
      go_quiet (fail)
      clear e0 f0 c5 d5
      go_wp2_with fail
      go_ret
      exact ⟨rfl, HOB.out.trans (HP.out.trans ((Only.refl _ wr).drewN nq))⟩
     subst hnm; have oww : Only (fun _ => False) w wr := HOB.out.trans HP.out; have HX := hid (fun (wx : World) (ox : Only (fun _ => False) wr.drew wx) => have o := (Only.refl _ wr).drew.trans ox; have ow := oww.trans o; And.intro (keepc o c5) (And.intro (keepc o d5) (And.intro (keepc ow e0) (And.intro (keepc ow e1) (And.intro (keepc ow f0) (keepc ow f1)))))); have HREC := hid (fun (wx : World) (ox : Only (fun _ => False) wr.drew wx) => hrec wx (oww.trans ((Only.refl _ wr).drew.trans ox))); clear hrec hjl hjm p1 p1' p2 p2' ha ha' e0 e1 f0 f1 oww
     go_upto_region 13 with (fail)
     clear c5 d5; refine wp_region_steps 28 (by kernel_rfl) rfl (by kernel_rfl) [some 86, some 87, some 88, some 89, some 90, some 91, some 92, some 93, some 94, some 95, some 96, some 97, some 98, some 99, some 100, some 101, some 102, some 103, some 104, some 105, some 106, some 107, some 108, some 109, some 110, some 111, some 112, some 113] rfl rfl (fun _ => False) [(fun v _ => v = (.pointer (some ⟨bA, 5, none⟩))), (fun v _ => v = (.slice (some ⟨gd, od, none⟩) LD cd)), (fun v _ => v = (.int .i64 (j : Int))), (fun v _ => v = (.pointer (some ⟨gd, od + j * 2, none⟩))), (fun v _ => v = (.pointer (some ⟨gd, od + j * 2, none⟩))), (fun v _ => v = (.string ⟨dn.toArray⟩)), (fun v _ => v = (.pointer (some ⟨bB, 5, none⟩))), (fun v _ => v = (.slice (some ⟨gd', od', none⟩) LD cd')), (fun v _ => v = (.int .i64 (j : Int))), (fun v _ => v = (.pointer (some ⟨gd', od' + j * 2, none⟩))), (fun v _ => v = (.pointer (some ⟨gd', od' + j * 2, none⟩))), (fun v _ => v = (.string ⟨dn.toArray⟩)), (fun v _ => v = (.bool false)), (fun v _ => v = (.bool false)), (fun v _ => v = (.pointer (some ⟨bA, 5, none⟩))), (fun v _ => v = (.slice (some ⟨gd, od, none⟩) LD cd)), (fun v _ => v = (.int .i64 (j : Int))), (fun v _ => v = (.pointer (some ⟨gd, od + j * 2, none⟩))), (fun v _ => v = (.pointer (some ⟨gd, od + j * 2 + 1, none⟩))), (fun v _ => v = (.slice ax LX cx)), (fun v _ => v = (.pointer (some ⟨bB, 5, none⟩))), (fun v _ => v = (.slice (some ⟨gd', od', none⟩) LD cd')), (fun v _ => v = (.int .i64 (j : Int))), (fun v _ => v = (.pointer (some ⟨gd', od' + j * 2, none⟩))), (fun v _ => v = (.pointer (some ⟨gd', od' + j * 2 + 1, none⟩))), (fun v _ => v = (.slice ax' LX' cx')), (fun v _ => v = (.bool RD)), (fun v _ => v = (.bool (!RD)))] rfl ⟨?_, ?_, ?_, ?_, ?_, ?_, ?_, ?_, ?_, ?_, ?_, ?_, ?_, ?_, ?_, ?_, ?_, ?_, ?_, ?_, ?_, ?_, ?_, ?_, ?_, ?_, ?_, ?_, trivial⟩ _ rfl ⟨?_, ?_, ?_, ?_, ?_, ?_, ?_, ?_, ?_, ?_, ?_, ?_, ?_, ?_, ?_, ?_, ?_, ?_, ?_, ?_, ?_, ?_, ?_, ?_, ?_, ?_, ?_, ?_, trivial⟩ ?_
     iterate 28 exact Stable.is _ _
     ·intro x wx ox hN TT HTT; unfold StepTo; simp only [putAll, Act.put, zA, zB, zC]; clear hN
      go_wp2_with fail
      exact ⟨rfl, _, rfl, HTT.out _ _ rfl oR⟩
     ·intro x wx ox hN TT HTT; unfold StepTo; simp only [putAll, Act.put, zA, zB, zC, eI (hN.1 rfl)]; clear hN; obtain ⟨m1, m2, m3, m4, m5, m6⟩ := HX.out wx ox
      go_wp2_with fail
      exact ⟨rfl, _, rfl, HTT.out _ _ rfl oR⟩
     ·intro x wx ox hN TT HTT; unfold StepTo; simp only [putAll, Act.put, zA, zB, zC]; clear hN
      go_wp2_with fail
      exact ⟨rfl, _, rfl, HTT.out _ _ rfl oR⟩
     ·intro x wx ox hN TT HTT; unfold StepTo; simp only [putAll, Act.put, zA, zB, zC, eI (hN.1 rfl), eI (hN.2.1 rfl)]; clear hN
      go_wp2_with fail
      exact ⟨rfl, _, rfl, HTT.out _ _ rfl oR⟩
     ·intro x wx ox hN TT HTT; unfold StepTo; simp only [putAll, Act.put, zA, zB, zC, eI (hN.1 rfl)]; clear hN
      go_wp2_with fail
      exact ⟨rfl, _, rfl, HTT.out _ _ rfl oR⟩
     ·intro x wx ox hN TT HTT; unfold StepTo; simp only [putAll, Act.put, zA, zB, zC, eI (hN.1 rfl)]; clear hN; obtain ⟨m1, m2, m3, m4, m5, m6⟩ := HX.out wx ox
      go_wp2_with fail
      exact ⟨rfl, _, rfl, HTT.out _ _ rfl oR⟩
     ·intro x wx ox hN TT HTT; unfold StepTo; simp only [putAll, Act.put, zA, zB, zC]; clear hN
      go_wp2_with fail
      exact ⟨rfl, _, rfl, HTT.out _ _ rfl oR⟩
     ·intro x wx ox hN TT HTT; unfold StepTo; simp only [putAll, Act.put, zA, zB, zC, eI (hN.1 rfl)]; clear hN; obtain ⟨m1, m2, m3, m4, m5, m6⟩ := HX.out wx ox
      go_wp2_with fail
      exact ⟨rfl, _, rfl, HTT.out _ _ rfl oR⟩
     ·intro x wx ox hN TT HTT; unfold StepTo; simp only [putAll, Act.put, zA, zB, zC]; clear hN
      go_wp2_with fail
      exact ⟨rfl, _, rfl, HTT.out _ _ rfl oR⟩
     ·intro x wx ox hN TT HTT; unfold StepTo; simp only [putAll, Act.put, zA, zB, zC, eI (hN.1 rfl), eI (hN.2.1 rfl)]; clear hN
      go_wp2_with fail
      exact ⟨rfl, _, rfl, HTT.out _ _ rfl oR⟩
     ·intro x wx ox hN TT HTT; unfold StepTo; simp only [putAll, Act.put, zA, zB, zC, eI (hN.1 rfl)]; clear hN
      go_wp2_with fail
      exact ⟨rfl, _, rfl, HTT.out _ _ rfl oR⟩
     ·intro x wx ox hN TT HTT; unfold StepTo; simp only [putAll, Act.put, zA, zB, zC, eI (hN.1 rfl)]; clear hN; obtain ⟨m1, m2, m3, m4, m5, m6⟩ := HX.out wx ox
      go_wp2_with fail
      exact ⟨rfl, _, rfl, HTT.out _ _ rfl oR⟩
     ·intro x wx ox hN TT HTT; unfold StepTo; simp only [putAll, Act.put, zA, zB, zC, eI (hN.1 rfl), eI (hN.2.1 rfl)]; clear hN
      go_wp2_with fail
      exact ⟨rfl, _, rfl, HTT.out _ _ rfl oR⟩
     ·intro x wx ox hN TT HTT; unfold StepTo; simp only [putAll, Act.put, zA, zB, zC, eI (hN.1 rfl)]; clear hN
      go_wp2_with fail
      exact ⟨rfl, _, rfl, HTT.out _ _ rfl oR⟩
     ·intro x wx ox hN TT HTT; unfold StepTo; simp only [putAll, Act.put, zA, zB, zC, eI (hN.1 rfl)]; clear hN
      go_wp2_with fail
      exact ⟨rfl, _, rfl, HTT.out _ _ rfl oR⟩
     ·intro x wx ox hN TT HTT; unfold StepTo; simp only [putAll, Act.put, zA, zB, zC, eI (hN.1 rfl), eI (hN.2.1 rfl)]; clear hN; obtain ⟨m1, m2, m3, m4, m5, m6⟩ := HX.out wx ox
      go_wp2_with fail
      exact ⟨rfl, _, rfl, HTT.out _ _ rfl oR⟩
     ·intro x wx ox hN TT HTT; unfold StepTo; simp only [putAll, Act.put, zA, zB, zC, eI (hN.1 rfl)]; clear hN
      go_wp2_with fail
      exact ⟨rfl, _, rfl, HTT.out _ _ rfl oR⟩
     ·intro x wx ox hN TT HTT; unfold StepTo; simp only [putAll, Act.put, zA, zB, zC, eI (hN.1 rfl), eI (hN.2.1 rfl), eI (hN.2.2.1 rfl)]; clear hN
      go_wp2_with fail
      exact ⟨rfl, _, rfl, HTT.out _ _ rfl oR⟩
     ·intro x wx ox hN TT HTT; unfold StepTo; simp only [putAll, Act.put, zA, zB, zC, eI (hN.1 rfl), eI (hN.2.1 rfl)]; clear hN
      go_wp2_with fail
      exact ⟨rfl, _, rfl, HTT.out _ _ rfl oR⟩
     ·intro x wx ox hN TT HTT; unfold StepTo; simp only [putAll, Act.put, zA, zB, zC, eI (hN.1 rfl), eI (hN.2.1 rfl)]; clear hN; obtain ⟨m1, m2, m3, m4, m5, m6⟩ := HX.out wx ox
      go_wp2_with fail
      exact ⟨rfl, _, rfl, HTT.out _ _ rfl oR⟩
     ·intro x wx ox hN TT HTT; unfold StepTo; simp only [putAll, Act.put, zA, zB, zC, eI (hN.1 rfl)]; clear hN
      go_wp2_with fail
      exact ⟨rfl, _, rfl, HTT.out _ _ rfl oR⟩
     ·intro x wx ox hN TT HTT; unfold StepTo; simp only [putAll, Act.put, zA, zB, zC, eI (hN.1 rfl), eI (hN.2.1 rfl)]; clear hN; obtain ⟨m1, m2, m3, m4, m5, m6⟩ := HX.out wx ox
      go_wp2_with fail
      exact ⟨rfl, _, rfl, HTT.out _ _ rfl oR⟩
     ·intro x wx ox hN TT HTT; unfold StepTo; simp only [putAll, Act.put, zA, zB, zC, eI (hN.1 rfl)]; clear hN
      go_wp2_with fail
      exact ⟨rfl, _, rfl, HTT.out _ _ rfl oR⟩
     ·intro x wx ox hN TT HTT; unfold StepTo; simp only [putAll, Act.put, zA, zB, zC, eI (hN.1 rfl), eI (hN.2.1 rfl), eI (hN.2.2.1 rfl)]; clear hN
      go_wp2_with fail
      exact ⟨rfl, _, rfl, HTT.out _ _ rfl oR⟩
     ·intro x wx ox hN TT HTT; unfold StepTo; simp only [putAll, Act.put, zA, zB, zC, eI (hN.1 rfl), eI (hN.2.1 rfl)]; clear hN
      go_wp2_with fail
      exact ⟨rfl, _, rfl, HTT.out _ _ rfl oR⟩
     ·intro x wx ox hN TT HTT; unfold StepTo; simp only [putAll, Act.put, zA, zB, zC, eI (hN.1 rfl), eI (hN.2.1 rfl)]; clear hN; obtain ⟨m1, m2, m3, m4, m5, m6⟩ := HX.out wx ox
      go_wp2_with fail
      exact ⟨rfl, _, rfl, HTT.out _ _ rfl oR⟩
     ·intro x wx ox hN TT HTT; unfold StepTo; simp only [putAll, Act.put, zA, zB, zC, eI (hN.1 rfl), eI (hN.2.1 rfl), eI (hN.2.2.1 rfl)]; clear hN; have ht := HREC.out wx ox; have HT := hid ht; clear ht
      go_wp2_with fail
      refine HT.out.mono ?_
      rintro e w6 ⟨rfl, o6⟩; have O6 := hid o6; clear o6
      go_wp2_with fail
      exact ⟨rfl, _, rfl, HTT.out _ _ rfl (O6.out)⟩
     ·intro x wx ox hN TT HTT; unfold StepTo; simp only [putAll, Act.put, zA, zB, zC, eI (hN.1 rfl), eI (hN.2.1 rfl)]; clear hN
      go_wp2_with fail
      exact ⟨rfl, _, rfl, HTT.out _ _ rfl oR⟩
     intro xz wxz oxz hN; simp only [putAll, Act.put, zA, zB, zC, eI hN.1, eI hN.2.1, eI hN.2.2.1, eI hN.2.2.2.1, eI hN.2.2.2.2.1, eI hN.2.2.2.2.2.1, eI hN.2.2.2.2.2.2.1, eI hN.2.2.2.2.2.2.2.1, eI hN.2.2.2.2.2.2.2.2.1, eI hN.2.2.2.2.2.2.2.2.2.1, eI hN.2.2.2.2.2.2.2.2.2.2.1, eI hN.2.2.2.2.2.2.2.2.2.2.2.1, eI hN.2.2.2.2.2.2.2.2.2.2.2.2.1, eI hN.2.2.2.2.2.2.2.2.2.2.2.2.2.1, eI hN.2.2.2.2.2.2.2.2.2.2.2.2.2.2.1, eI hN.2.2.2.2.2.2.2.2.2.2.2.2.2.2.2.1, eI hN.2.2.2.2.2.2.2.2.2.2.2.2.2.2.2.2.1, eI hN.2.2.2.2.2.2.2.2.2.2.2.2.2.2.2.2.2.1, eI hN.2.2.2.2.2.2.2.2.2.2.2.2.2.2.2.2.2.2.1, eI hN.2.2.2.2.2.2.2.2.2.2.2.2.2.2.2.2.2.2.2.1, eI hN.2.2.2.2.2.2.2.2.2.2.2.2.2.2.2.2.2.2.2.2.1, eI hN.2.2.2.2.2.2.2.2.2.2.2.2.2.2.2.2.2.2.2.2.2.1, eI hN.2.2.2.2.2.2.2.2.2.2.2.2.2.2.2.2.2.2.2.2.2.2.1, eI hN.2.2.2.2.2.2.2.2.2.2.2.2.2.2.2.2.2.2.2.2.2.2.2.1, eI hN.2.2.2.2.2.2.2.2.2.2.2.2.2.2.2.2.2.2.2.2.2.2.2.2.1, eI hN.2.2.2.2.2.2.2.2.2.2.2.2.2.2.2.2.2.2.2.2.2.2.2.2.2.1, eI hN.2.2.2.2.2.2.2.2.2.2.2.2.2.2.2.2.2.2.2.2.2.2.2.2.2.2.1, eI hN.2.2.2.2.2.2.2.2.2.2.2.2.2.2.2.2.2.2.2.2.2.2.2.2.2.2.2.1]; clear hN; have OZ := hid (HP.out.trans ((Only.refl _ wr).drew.trans oxz)); clear oxz
     cases RD with
     | false =>
      have hRf : R = false := HNR.out (by
       cases R2 with
       | false => rfl
       | true => exact absurd (HALL.out.1 rfl) (fun h => by cases h.2))
      subst hRf
      go_wp2_with fail
      go_ret
      exact ⟨rfl, HOB.out.trans OZ.out⟩
     | true =>
      have HNX2 := hid (HNX.out (HALL.out.2 (by simp)))
      go_wp2_with fail
      go_roundw
      case rel => exact ⟨j + 1, by simp [go_sem], by omega, hid ⟨OZ.out, HNX2.out⟩⟩
      case measure => simp [intOf]; omega
    ·have hke : j = LD := by omega
     subst hke; have t4 : decide ((j : Int) < (j : Int)) = false := by simp
     go_wp2_with fail
     clear c5 d5
     go_roundw
     case rel => exact ⟨i + 1, by simp, by omega, hid ⟨HOB.out.trans HP.out, HNS.out (take_all HTJ.out HLD.out HLD2.out)⟩⟩
     case measure => simp [intOf]; omega
  ·have hke : i = L := by omega
   subst hke; have t3 : decide ((i : Int) < (i : Int)) = false := by simp
   go_wp2_with fail
   have hRt : R = true := HR.out.2 (take_all HTK.out HL.out (by rw [← HEQ.out]; exact HL.out)); subst hRt
   go_ret
   exact ⟨rfl, HO.out⟩
theorem sameSG_all : ∀ z, SameSG z
 | 0 => fun l m R hR hz => by exfalso; cases l <;> simp at hz
 | z + 1 => sameSG_step z (sameSG_all z)
theorem sameSet_any (l m : List SL) (R : Bool) (hR : R = true ↔ l = m) (G G' : Nat → Prop) (w : World) (v u : Value) (h : CellAt w G (.row 7 (l.map selC)) v) (h' : CellAt w G' (.row 7 (m.map selC)) u) :
  Calls Tryz.prog 51 #[v, u] w (fun e w' => e = .returned (.bool R) ∧ Only (fun _ => False) w w') := sameSG_all _ l m R hR (Nat.le_refl _) G G' w v u h h'
end Go.Proofs.YtnkpoddbbdmipaaGreatDoor
