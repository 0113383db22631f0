/- . -/
import Derived.Below
import Derived.Test.YtnkpoddbbdmipaaGreatDoorUaAw8
import Derived.Test.YtnkpoddbbdmipaaGreatDoorUaQfp
import Derived.Test.YtnkpoddbbdmipaaGreatDoorUaPnv
namespace Go.Proofs.YtnkpoddbbdmipaaGreatDoor
open Go Go.RowKit
open Go.Lib (hid)
set_option linter.unusedVariables false
set_option linter.unusedSimpArgs false
theorem quot_cells {w : World} {G : Nat → Prop} {s : List UInt8} {a1 a2 : Option Addr} {c1 c2 : Nat} (h : CellsAt w G (docC (qutD s)) [.slice a1 1 c1, .slice a2 0 c2]) :
  ∃ (g o sg so cs ag ao ca : Nat), a1 = some ⟨g, o, none⟩ ∧ w.cell? ⟨g, o + 3, none⟩ = some (.slice (some ⟨sg, so, none⟩) 1 cs) ∧
   w.cell? ⟨sg, so + 4, none⟩ = some (.slice (some ⟨ag, ao, none⟩) 1 ca) ∧ w.cell? ⟨ag, ao + 1 + 2, none⟩ = some (.string ⟨s.toArray⟩) ∧ w.cell? ⟨ag, ao + 1, none⟩ = some (.int .u8 2) := by
 obtain ⟨v1, us, e, h1, -⟩ := cells_cons h
 injection e with e _; subst e
 have h1 : CellAt w G (.row 4 ((qutD s).ops.map opC)) (.slice a1 1 c1) := h1; obtain ⟨a, c, e, -, -, k3⟩ := rows_at h1
 injection e with e _ _; subst e
 obtain ⟨g, o, cs, rfl, -, q1, q2⟩ := k3 0 (by simp [qutD]); rw [Nat.zero_mul, Nat.add_zero] at q1; have q2 : CellsAt w G (opC ⟨false, [], [], [.mk 1 [] [97] [] [⟨[98], .mk 2 0 s [] []⟩] [] []]⟩) cs := q2; obtain ⟨vv, sv, rfl, -, m3⟩ := op_cells q2; obtain ⟨av, cv, rfl, -, -, j3⟩ := rows_at m3; obtain ⟨sg, so, ds, rfl, -, p1, p2⟩ := j3 0 (by simp); rw [Nat.zero_mul, Nat.add_zero] at p1; have p2 : CellsAt w G (selC (.mk 1 [] [97] [] [⟨[98], .mk 2 0 s [] []⟩] [] [])) ds := p2; obtain ⟨gv, dv, sv, rfl, r3, -⟩ := sel_cells p2; obtain ⟨aa, ca, rfl, -, -, i3⟩ := rows_at r3; obtain ⟨ag, ao, es, rfl, -, t1, t2⟩ := i3 0 (by simp); rw [Nat.zero_mul, Nat.add_zero] at t1; have t2 : CellsAt w G (argC ⟨[98], .mk 2 0 s [] []⟩) es := t2; obtain ⟨us, rfl, t3⟩ := arg_cells t2; obtain ⟨kv, lv, rfl, -⟩ := val_cells t3; exact ⟨g, o, sg, so, cv, ag, ao, ca, rfl, q1 3 _ rfl, p1 4 _ rfl, t1 3 _ rfl, t1 1 _ rfl⟩
set_option maxRecDepth 100000 in
set_option maxHeartbeats 16000000 in
theorem pquotes_walk (a0 : ByteArray) (w : World) (hs : a0.size ≤ maxLen) (ht : Tab w) :
  Calls Tryz.prog 6 #[.string a0] w fun e w' => e = .returned (.bool true) ∧ Below w.heap.size w w' := by
 obtain ⟨l, rfl⟩ : ∃ l : List UInt8, a0 = ⟨l.toArray⟩ := ⟨a0.data.toList, rfl⟩; have hs : l.length ≤ maxLen := hs; have hs : l.length ≤ 9223372036854775807 := hs; have JA := hid (fun (wx : World) (ox : Only (fun _ => False) w wx) => awake08 wx (ht.still ox)); have J := hid (JA.out w (Only.refl _ w)); clear ht
 go_enter Tryz.func6, Tryz.ntmps6
 go_wp2_with fail
 refine J.out.mono ?_
 rintro e w1 ⟨rfl, o1⟩; have HO1 := hid o1; clear o1 J
 by_cases hl : 200 < l.length
 ·have J := hid (JA.out w1 HO1.out)
  go_wp2_with fail
  refine J.out.mono ?_
  rintro e w2 ⟨rfl, o2⟩; have HO2 := hid (HO1.out.trans o2); clear o2
  go_wp2_with fail
  go_ret
  exact ⟨rfl, HO2.out.below (Nat.le_refl _) (fun _ _ h => h)⟩
 ·have hlq : (quoS l).length ≤ 402 := by have := escS_len l; unfold quoS; simp only [List.length_append, List.length_cons, List.length_nil]; omega
  have hdoc := quot_doc (s := l) (by omega); have J := pquote_any ⟨l.toArray⟩ (by show l.length ≤ _; omega) w1; have HQR := fun (wx : World) => quote_any ⟨l.toArray⟩ (by show l.length ≤ _; omega) wx
  rw [show (⟨l.toArray⟩ : ByteArray).data.toList = l from rfl] at J HQR; obtain ⟨q, hq⟩ := eX (quoS l); rw [hq] at J HQR hdoc hlq; have HJ := hid J; have HR := hid HQR; have HDOC := hid hdoc; clear J HQR hq hdoc
  go_wp2_with fail
  refine HJ.out.mono ?_
  rintro e w2 ⟨rfl, o2⟩; have HO2 := hid (HO1.out.trans o2); clear o2 HJ; obtain ⟨S, hS⟩ : ∃ S : ByteArray, (⟨(qutA ++ q ++ qutB).toArray⟩ : ByteArray) = S := ⟨_, rfl⟩; have hSl : S.data.toList = qutS q := by rw [← hS, List.append_assoc]; rfl
  have J := fdocument_any S w2 (by rw [← hS]; show (qutA ++ q ++ qutB).length ≤ _; rw [List.length_append, List.length_append]; show 5 + q.length + 2 ≤ 2 ^ 63 - 1; omega); have hS3 : ({ data := #[123, 97, 40, 98, 58] } ++ { data := q.toArray } ++ { data := #[41, 125] } : ByteArray) = S := by rw [← hS, cat_list, ← cat_list]; rfl
  rw [hSl, HDOC.out] at J; have HS3 := hid hS3; have HJ := hid J; clear hS hSl hS3 J HDOC
  go_wp2_with fail
  rw [HS3.out]; clear HS3; refine HJ.out.mono ?_
  rintro e w4 ⟨a1, c1, a2, c2, rfl, hd, o4⟩; have hld : (qutD l).ops.length = 1 := rfl; have hlf : (qutD l).frags.length = 0 := rfl; rw [hld, hlf] at *; obtain ⟨wA, hwA⟩ := eX (w4.alloc (.cells #[.slice a1 1 c1, .slice a2 0 c2] 26)); have oa : Only (fun _ => False) w4 wA := by rw [← hwA]; exact (Only.refl _ w4).alloc _
  have hbx := heap_new w4 (.cells #[.slice a1 1 c1, .slice a2 0 c2] 26); rw [hwA] at hbx; obtain ⟨bD, hbD⟩ := eX (w4.heap.size); rw [hbD] at hbx; obtain ⟨d0, d1, -⟩ := boxN2 hbx; have HOA := hid (HO2.out.trans (o4.trans oa)); have hd := CellsAt.only oa (fun _ _ h => h) _ _ hd; obtain ⟨g, o, sg, so, cs, ag, ao, ca, rfl, y0, y1, y2, y3⟩ := quot_cells hd; have HX := hid (fun (wx : World) (o : Only (fun _ => False) wA wx) => And.intro (keepc o d0) (And.intro (keepc o y0) (And.intro (keepc o y1) (And.intro (keepc o y2) (keepc o y3))))); have HWA := hid hwA; have HB := hid hbD; clear hwA oa hbx hbD hd o4 HJ d0 d1 y0 y1 y2 y3 hld hlf hs hl hlq
  go_upto_region 5 with (fail)
  rw [HB.out, HWA.out]; clear HB HWA; have J := hid (HR.out wA)
  go_wp2_with fail
  refine J.out.mono ?_
  rintro e w5 ⟨rfl, o5⟩; have HO5 := hid (HOA.out.trans o5); obtain ⟨m0, m1, m2, m3, m4⟩ := HX.out w5 o5; clear o5 HX
  go_wp2_with fail
  go_ret
  exact ⟨rfl, HO5.out.below (Nat.le_refl _) (fun _ _ h => h)⟩
end Go.Proofs.YtnkpoddbbdmipaaGreatDoor
