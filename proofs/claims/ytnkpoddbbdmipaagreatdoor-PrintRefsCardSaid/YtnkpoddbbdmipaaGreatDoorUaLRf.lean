/- . -/
import Derived.Below
import Derived.Test.YtnkpoddbbdmipaaGreatDoorUaLNm
import Derived.Test.YtnkpoddbbdmipaaGreatDoorUaRfp
namespace Go.Proofs.YtnkpoddbbdmipaaGreatDoor
open Go Go.RowKit
open Go.Lib (hid)
set_option linter.unusedVariables false
set_option linter.unusedSimpArgs false
theorem refs_cells {w : World} {G : Nat → Prop} {t : TR} {a1 a2 : Option Addr} {c1 c2 : Nat} (h : CellsAt w G (docC (refD t)) [.slice a1 1 c1, .slice a2 0 c2]) :
  ∃ (g o v vo c : Nat) (s : List UInt8) (a : Option Addr) (l ca : Nat) (b : Bool), a1 = some ⟨g, o, none⟩ ∧ w.cell? ⟨g, o + 2, none⟩ = some (.slice (some ⟨v, vo, none⟩) 1 c) ∧
   w.cell? ⟨v, vo + 1, none⟩ = some (.string ⟨s.toArray⟩) ∧ w.cell? ⟨v, vo + 2, none⟩ = some (.slice a l ca) ∧ w.cell? ⟨v, vo + 3, none⟩ = some (.bool b) ∧ CellsAt w G (trC t) [.string ⟨s.toArray⟩, .slice a l ca, .bool b] := by
 obtain ⟨v1, us, e, h1, -⟩ := cells_cons h
 injection e with e _; subst e
 have h1 : CellAt w G (.row 4 ((refD t).ops.map opC)) (.slice a1 1 c1) := h1; obtain ⟨a, c, e, -, -, k3⟩ := rows_at h1
 injection e with e _ _; subst e
 obtain ⟨g, o, cs, rfl, -, q1, q2⟩ := k3 0 (by simp [refD]); rw [Nat.zero_mul, Nat.add_zero] at q1; have q2 : CellsAt w G (opC ⟨false, [], [⟨[97], t, false, VT.zero⟩], [.mk 1 [] [97] [] [] [] []]⟩) cs := q2; obtain ⟨u1, us, rfl, m1, q2⟩ := cells_cons q2; obtain ⟨u2, us, rfl, m2, q2⟩ := cells_cons q2; obtain ⟨u3, us, rfl, m3, q2⟩ := cells_cons q2; obtain ⟨av, cv, rfl, -, -, j3⟩ := rows_at m3; obtain ⟨v, vo, ds, rfl, -, p1, p2⟩ := j3 0 (by simp); rw [Nat.zero_mul, Nat.add_zero] at p1; have p2 : CellsAt w G (vdC ⟨[97], t, false, VT.zero⟩) ds := p2; obtain ⟨ts, us', rfl, r1, -⟩ := vd_cells p2; obtain ⟨s, a, l, ca, b, rfl⟩ := trC_form2 r1; exact ⟨g, o, v, vo, cv, s, a, l, ca, b, rfl, q1 2 _ rfl, p1 1 _ rfl, p1 2 _ rfl, p1 3 _ rfl, r1⟩
set_option maxRecDepth 100000 in
set_option maxHeartbeats 16000000 in
theorem prefs_walk (v0 : Value) (w : World) {H : Type} {enc : TypeId × Value → H} {d0 : DataW H} {p0 : List MemPlace} (h0 : DataW.Trod enc Tryz.prog w 0 (fun _ => true) true 41 v0 d0 p0) (g0 : ∀ n ∈ d0.weights Tryz.prog 41, n ≤ 140737488351232) (ht : Tab w) :
  Calls Tryz.prog 8 #[v0] w fun e w' => e = .returned (.bool true) ∧ Below w.heap.size w w' := by
 obtain ⟨t0, s0, a0, l0, c0, b0, rfl, k0, z0⟩ := tt_of_Trod h0 g0; obtain ⟨bA, hbA⟩ := eX (w.heap.size); obtain ⟨wb, hwb⟩ := eX (w.alloc (.cells #[.string ⟨s0.toArray⟩, .slice a0 l0 c0, .bool b0] 41)); have ob : Only (fun _ => False) w wb := by rw [← hwb]; exact (Only.refl _ w).alloc _
 have hx1 : wb.heap[bA]? = some (.cells #[.string ⟨s0.toArray⟩, .slice a0 l0 c0, .bool b0] 41 (0, 0)) := by rw [← hwb, ← hbA]; exact heap_new w _
 have JS0 := hid (fun (wx : World) (ox : Only (fun _ => False) w wx) => small_any 20 t0 _ wx _ (by omega) (CellsAt.only ox (fun _ _ h => h) _ _ k0)); have JA := hid (fun (wx : World) (ox : Only (fun _ => False) w wx) => awake08 wx (ht.still ox)); have HK0 := hid k0; have HZ0 := hid z0; have HX1 := hid hx1; have HOB := hid ob; have HWB := hid hwb; have HBA := hid hbA; obtain ⟨x0, x1, x2, -⟩ := boxN3 hx1; clear h0 g0 k0 z0 hx1 ob hwb hbA ht; obtain ⟨sa, hsa⟩ := eX (smallB 20 t0); rw [hsa] at JS0; have J0 := hid (JS0.out wb HOB.out); have HSA := hid hsa; clear hsa
 go_enter Tryz.func8, Tryz.ntmps8
 go_upto_region 1 with (fail)
 rw [HWB.out, HBA.out]; clear HWB HBA
 go_wp2_with fail
 refine J0.out.mono ?_
 rintro e w1 ⟨rfl, o1⟩; have HO1 := hid (HOB.out.trans o1); have O1 := hid o1; have x0 := keepc o1 x0; have x1 := keepc o1 x1; have x2 := keepc o1 x2; clear o1 J0 JS0
 cases sa with
 | false =>
  have J := hid (JA.out w1 HO1.out)
  go_wp2_with fail
  refine J.out.mono ?_
  rintro e w2 ⟨rfl, o2⟩; have HO2 := hid (HO1.out.trans o2); clear o2 x0 x1 x2
  go_wp2_with fail
  go_ret
  exact ⟨rfl, HO2.out.below (Nat.le_refl _) (fun _ _ h => h)⟩
 | true =>
  have q0 := HK0.out; rw [← ttC_small 20 t0 HSA.out] at q0; have n0 := typ_len 20 t0 HZ0.out HSA.out; have r0 := trz_of 20 t0 HZ0.out HSA.out; have rd : plainB (toTR t0) = true → docP (refS (ren (typI (toTR t0)))) = .ok (refD (toTR t0)) ∨ ∃ p, docP (refS (ren (typI (toTR t0)))) = .bad p 2 := fun h => refs_doc HSA.out h
  generalize toTR t0 = u0 at *
  have J1 := hid (plain_any u0 _ w1 _ (CellsAt.only HO1.out (fun _ _ h => h) _ _ q0) r0); obtain ⟨pa, hpa⟩ := eX (plainB u0); rw [hpa] at J1 rd; obtain ⟨xa, hxa⟩ := eX (ren (typI u0)); have HT := hid (fun (wx : World) (ox : Only (fun _ => False) w wx) => ppT_big u0 _ wx _ (CellsAt.only ox (fun _ _ h => h) _ _ q0) (by omega)); have HS := hid (fun (wx : World) (ox : Only (fun _ => False) w wx) (G : Nat → Prop) (cs : List Value) (h : CellsAt wx G (trC u0) cs) => sameT_any u0 u0 _ _ wx _ _ h (CellsAt.only ox (fun _ _ h => h) _ _ q0)); rw [(trSame_iff u0 u0).2 rfl] at HS; rw [hxa] at HT rd n0; have HRD := hid rd; clear q0 r0 hpa hxa rd HK0 HZ0 HSA
  go_wp2_with fail
  refine J1.out.mono ?_
  rintro e w2 ⟨rfl, o2⟩; have HO2 := hid (HO1.out.trans o2); have O2 := hid (O1.out.trans o2); have x0 := keepc o2 x0; have x1 := keepc o2 x1; have x2 := keepc o2 x2; clear o2 J1 O1 HO1
  cases pa with
  | false =>
   have J := hid (JA.out w2 HO2.out); clear n0
   go_wp2_with fail
   refine J.out.mono ?_
   rintro e w3 ⟨rfl, o3⟩; have HO3 := hid (HO2.out.trans o3); clear o3 x0 x1 x2
   go_wp2_with fail
   go_ret
   exact ⟨rfl, HO3.out.below (Nat.le_refl _) (fun _ _ h => h)⟩
  | true =>
   have J := hid (HT.out w2 HO2.out); have hl : xa.length ≤ 140737488351392 := by omega
   clear n0
   go_wp2_with fail
   refine J.out.mono ?_
   rintro e w3 ⟨rfl, o3⟩; have HO3 := hid (HO2.out.trans o3); have O3 := hid (O2.out.trans o3); clear o3 x0 x1 x2 J HT; obtain ⟨S, hS⟩ : ∃ S : ByteArray, (⟨(refA ++ xa ++ refB).toArray⟩ : ByteArray) = S := ⟨_, rfl⟩; have hSl : S.data.toList = refS xa := by rw [← hS, List.append_assoc]; rfl
   have J := fdocument_any S w3 (by rw [← hS]; show (refA ++ xa ++ refB).length ≤ _; rw [List.length_append, List.length_append]; show 11 + xa.length + 7 ≤ 2 ^ 63 - 1; omega); rw [hSl] at J; have hS3 : ({ data := #[113, 117, 101, 114, 121, 32, 40, 36, 97, 58, 32] } ++ { data := xa.toArray } ++ { data := #[41, 32, 123, 32, 97, 32, 125] } : ByteArray) = S := by rw [← hS, cat_list, ← cat_list]; rfl
   have HS3 := hid hS3; clear hS hSl hS3; obtain ⟨D, hD⟩ : ∃ D : DR1, docP (refS xa) = D := ⟨_, rfl⟩; have hrd := HRD.out trivial; rw [hD] at hrd J; have HJ := hid J; clear J HRD hD
   go_wp2_with fail
   rw [HS3.out]; clear HS3
   rcases hrd with rfl | ⟨p, rfl⟩
   ·refine HJ.out.mono ?_
    rintro e w4 ⟨a1, c1, a2, c2, rfl, hd, o4⟩; have hld : (refD u0).ops.length = 1 := rfl; have hlf : (refD u0).frags.length = 0 := rfl; rw [hld, hlf] at *; obtain ⟨wA, hwA⟩ := eX (w4.alloc (.cells #[.slice a1 1 c1, .slice a2 0 c2] 26)); have oa : Only (fun _ => False) w4 wA := by rw [← hwA]; exact (Only.refl _ w4).alloc _
    have hbx := heap_new w4 (.cells #[.slice a1 1 c1, .slice a2 0 c2] 26); rw [hwA] at hbx; obtain ⟨bD, hbD⟩ := eX (w4.heap.size); rw [hbD] at hbx; obtain ⟨d0, d1, -⟩ := boxN2 hbx; have HOA := hid (HO3.out.trans (o4.trans oa)); have O4 := hid (O3.out.trans (o4.trans oa)); obtain ⟨x0, x1, x2, -⟩ := boxN3 ((O4.out.block bA (Array.getElem?_eq_some_iff.1 HX1.out).1 (fun h => h)).trans HX1.out); have hd := CellsAt.only oa (fun _ _ h => h) _ _ hd; obtain ⟨g, o, vb, vo, cv, s1, a3, l3, c3, b3, rfl, y0, z0, z1, z2, hT⟩ := refs_cells hd; have HTs := hid (fun (wx : World) (ox : Only (fun _ => False) wA.drew wx) => HS.out wx (HOA.out.trans ((Only.refl _ wA).drew.trans ox)) _ _ (CellsAt.only ((Only.refl _ wA).drew.trans ox) (fun _ _ h => h) _ _ hT)); have HAW := hid (fun (wx : World) (ox : Only (fun _ => False) wA.drew wx) => JA.out wx (HOA.out.trans ((Only.refl _ wA).drew.trans ox))); have HX := hid (fun (wx : World) (ox : Only (fun _ => False) wA.drew wx) => have o := (Only.refl _ wA).drew.trans ox; And.intro (keepc o x0) (And.intro (keepc o x1) (And.intro (keepc o x2) (And.intro (keepc o d0) (And.intro (keepc o y0) (And.intro (keepc o z0) (And.intro (keepc o z1) (keepc o z2)))))))); have HWA := hid hwA; have HB := hid hbD; clear hwA oa hbx hbD hd hT o4 HJ x0 x1 x2 d0 d1 y0 z0 z1 z2
    go_upto_region 4 with (fail)
    rw [HB.out, HWA.out]; clear HB HWA hld hlf hl
    go_upto_region 6 with (fail)
    refine wp_region_steps 32 (by kernel_rfl) rfl (by kernel_rfl) [some 27, some 28, some 29, some 30, some 31, some 32, some 33, some 34, some 35, some 36, some 37, some 38, some 39, some 40, some 41, some 42, some 43, some 44, some 45, some 46, some 47, some 48, some 49, some 50, some 51, some 52, some 53, some 54, some 55, some 56, some 57, some 58] rfl rfl (fun _ => False) [(fun v _ => v = (.bool true)), (fun v _ => v = (.bool true)), (fun v _ => v = (.int .i64 (0 : Int))), (fun v _ => v = (.bool true)), (fun v _ => v = (.bool true)), (fun v _ => v = (.bool true)), (fun v _ => v = (.pointer (some ⟨bD, 0, none⟩))), (fun v _ => v = (.slice (some ⟨g, o, none⟩) 1 c1)), (fun v _ => v = (.int .i64 1)), (fun v _ => v = (.bool true)), (fun v _ => v = (.bool true)), (fun v _ => v = (.bool true)), (fun v _ => v = (.pointer (some ⟨bD, 0, none⟩))), (fun v _ => v = (.slice (some ⟨g, o, none⟩) 1 c1)), (fun v _ => v = (.pointer (some ⟨g, o, none⟩))), (fun v _ => v = (.pointer (some ⟨g, o + 2, none⟩))), (fun v _ => v = (.slice (some ⟨vb, vo, none⟩) 1 cv)), (fun v _ => v = (.int .i64 1)), (fun v _ => v = (.bool true)), (fun v _ => v = (.bool true)), (fun v _ => v = (.bool true)), (fun v _ => v = (.pointer (some ⟨bD, 0, none⟩))), (fun v _ => v = (.slice (some ⟨g, o, none⟩) 1 c1)), (fun v _ => v = (.pointer (some ⟨g, o, none⟩))), (fun v _ => v = (.pointer (some ⟨g, o + 2, none⟩))), (fun v _ => v = (.slice (some ⟨vb, vo, none⟩) 1 cv)), (fun v _ => v = (.pointer (some ⟨vb, vo, none⟩))), (fun v _ => v = (.pointer (some ⟨vb, vo + 1, none⟩))), (fun v _ => v = (.agg #[.string ⟨s1.toArray⟩, .slice a3 l3 c3, .bool b3])), (fun v _ => v = (.agg #[.string ⟨s0.toArray⟩, .slice a0 l0 c0, .bool b0])), (fun v _ => v = (.bool true)), (fun v _ => v = (.bool true))] rfl ⟨?_, ?_, ?_, ?_, ?_, ?_, ?_, ?_, ?_, ?_, ?_, ?_, ?_, ?_, ?_, ?_, ?_, ?_, ?_, ?_, ?_, ?_, ?_, ?_, ?_, ?_, ?_, ?_, ?_, ?_, ?_, ?_, trivial⟩ _ rfl ⟨?_, ?_, ?_, ?_, ?_, ?_, ?_, ?_, ?_, ?_, ?_, ?_, ?_, ?_, ?_, ?_, ?_, ?_, ?_, ?_, ?_, ?_, ?_, ?_, ?_, ?_, ?_, ?_, ?_, ?_, ?_, ?_, trivial⟩ ?_
    iterate 32 exact Stable.is _ _
    ·intro x wx ox hN TT HTT; unfold StepTo; simp only [putAll, Act.put, zA, zB, zC]; clear hN; have ht := HAW.out wx ox; have HT := hid ht; clear ht
     go_wp2_with fail
     refine HT.out.mono ?_
     rintro e w6 ⟨rfl, o6⟩; have O6 := hid o6; clear o6
     go_wp2_with fail
     exact ⟨rfl, _, rfl, HTT.out _ _ (rfl) (O6.out)⟩
    ·intro x wx ox hN TT HTT; unfold StepTo; simp only [putAll, Act.put, zA, zB, zC, eI (hN.1 rfl)]; clear hN
     go_wp2_with fail
     exact ⟨rfl, _, rfl, HTT.out _ _ (rfl) (Only.refl _ _)⟩
    ·intro x wx ox hN TT HTT; unfold StepTo; simp only [putAll, Act.put, zA, zB, zC, eI (hN.1 rfl)]; clear hN
     go_wp2_with fail
     exact ⟨rfl, _, rfl, HTT.out _ _ (rfl) (Only.refl _ _)⟩
    ·intro x wx ox hN TT HTT; unfold StepTo; simp only [putAll, Act.put, zA, zB, zC, eI (hN.1 rfl), eI (hN.2.1 rfl)]; clear hN
     go_wp2_with fail
     exact ⟨rfl, _, rfl, HTT.out _ _ (rfl) (Only.refl _ _)⟩
    ·intro x wx ox hN TT HTT; unfold StepTo; simp only [putAll, Act.put, zA, zB, zC, eI (hN.1 rfl), eI (hN.2.1 rfl)]; clear hN
     go_wp2_with fail
     exact ⟨rfl, _, rfl, HTT.out _ _ (rfl) (Only.refl _ _)⟩
    ·intro x wx ox hN TT HTT; unfold StepTo; simp only [putAll, Act.put, zA, zB, zC, eI (hN.1 rfl), eI (hN.2.1 rfl)]; clear hN
     go_wp2_with fail
     exact ⟨rfl, _, rfl, HTT.out _ _ (rfl) (Only.refl _ _)⟩
    ·intro x wx ox hN TT HTT; unfold StepTo; simp only [putAll, Act.put, zA, zB, zC, eI (hN.1 rfl)]; clear hN
     go_wp2_with fail
     exact ⟨rfl, _, rfl, HTT.out _ _ (rfl) (Only.refl _ _)⟩
    ·intro x wx ox hN TT HTT; unfold StepTo; simp only [putAll, Act.put, zA, zB, zC, eI (hN.1 rfl), eI (hN.2.1 rfl)]; clear hN; obtain ⟨m0, m1, m2, m3, m4, m5, m6, m7⟩ := HX.out wx ox
     go_wp2_with fail
     exact ⟨rfl, _, rfl, HTT.out _ _ (rfl) (Only.refl _ _)⟩
    ·intro x wx ox hN TT HTT; unfold StepTo; simp only [putAll, Act.put, zA, zB, zC, eI (hN.1 rfl), eI (hN.2.1 rfl)]; clear hN
     go_wp2_with fail
     exact ⟨rfl, _, rfl, HTT.out _ _ (rfl) (Only.refl _ _)⟩
    ·intro x wx ox hN TT HTT; unfold StepTo; simp only [putAll, Act.put, zA, zB, zC, eI (hN.1 rfl), eI (hN.2.1 rfl)]; clear hN
     go_wp2_with fail
     exact ⟨rfl, _, rfl, HTT.out _ _ (rfl) (Only.refl _ _)⟩
    ·intro x wx ox hN TT HTT; unfold StepTo; simp only [putAll, Act.put, zA, zB, zC, eI (hN.1 rfl), eI (hN.2.1 rfl)]; clear hN
     go_wp2_with fail
     exact ⟨rfl, _, rfl, HTT.out _ _ (rfl) (Only.refl _ _)⟩
    ·intro x wx ox hN TT HTT; unfold StepTo; simp only [putAll, Act.put, zA, zB, zC, eI (hN.1 rfl), eI (hN.2.1 rfl)]; clear hN
     go_wp2_with fail
     exact ⟨rfl, _, rfl, HTT.out _ _ (rfl) (Only.refl _ _)⟩
    ·intro x wx ox hN TT HTT; unfold StepTo; simp only [putAll, Act.put, zA, zB, zC, eI (hN.1 rfl)]; clear hN
     go_wp2_with fail
     exact ⟨rfl, _, rfl, HTT.out _ _ (rfl) (Only.refl _ _)⟩
    ·intro x wx ox hN TT HTT; unfold StepTo; simp only [putAll, Act.put, zA, zB, zC, eI (hN.1 rfl), eI (hN.2.1 rfl)]; clear hN; obtain ⟨m0, m1, m2, m3, m4, m5, m6, m7⟩ := HX.out wx ox
     go_wp2_with fail
     exact ⟨rfl, _, rfl, HTT.out _ _ (rfl) (Only.refl _ _)⟩
    ·intro x wx ox hN TT HTT; unfold StepTo; simp only [putAll, Act.put, zA, zB, zC, eI (hN.1 rfl), eI (hN.2.1 rfl)]; clear hN
     go_wp2_with fail
     exact ⟨rfl, _, rfl, HTT.out _ _ (rfl) (Only.refl _ _)⟩
    ·intro x wx ox hN TT HTT; unfold StepTo; simp only [putAll, Act.put, zA, zB, zC, eI (hN.1 rfl), eI (hN.2.1 rfl)]; clear hN
     go_wp2_with fail
     exact ⟨rfl, _, rfl, HTT.out _ _ (rfl) (Only.refl _ _)⟩
    ·intro x wx ox hN TT HTT; unfold StepTo; simp only [putAll, Act.put, zA, zB, zC, eI (hN.1 rfl), eI (hN.2.1 rfl)]; clear hN; obtain ⟨m0, m1, m2, m3, m4, m5, m6, m7⟩ := HX.out wx ox
     go_wp2_with fail
     exact ⟨rfl, _, rfl, HTT.out _ _ (rfl) (Only.refl _ _)⟩
    ·intro x wx ox hN TT HTT; unfold StepTo; simp only [putAll, Act.put, zA, zB, zC, eI (hN.1 rfl), eI (hN.2.1 rfl)]; clear hN
     go_wp2_with fail
     exact ⟨rfl, _, rfl, HTT.out _ _ (rfl) (Only.refl _ _)⟩
    ·intro x wx ox hN TT HTT; unfold StepTo; simp only [putAll, Act.put, zA, zB, zC, eI (hN.1 rfl), eI (hN.2.1 rfl)]; clear hN
     go_wp2_with fail
     exact ⟨rfl, _, rfl, HTT.out _ _ (rfl) (Only.refl _ _)⟩
    ·intro x wx ox hN TT HTT; unfold StepTo; simp only [putAll, Act.put, zA, zB, zC, eI (hN.1 rfl), eI (hN.2.1 rfl)]; clear hN
     go_wp2_with fail
     exact ⟨rfl, _, rfl, HTT.out _ _ (rfl) (Only.refl _ _)⟩
    ·intro x wx ox hN TT HTT; unfold StepTo; simp only [putAll, Act.put, zA, zB, zC, eI (hN.1 rfl), eI (hN.2.1 rfl)]; clear hN
     go_wp2_with fail
     exact ⟨rfl, _, rfl, HTT.out _ _ (rfl) (Only.refl _ _)⟩
    ·intro x wx ox hN TT HTT; unfold StepTo; simp only [putAll, Act.put, zA, zB, zC, eI (hN.1 rfl)]; clear hN
     go_wp2_with fail
     exact ⟨rfl, _, rfl, HTT.out _ _ (rfl) (Only.refl _ _)⟩
    ·intro x wx ox hN TT HTT; unfold StepTo; simp only [putAll, Act.put, zA, zB, zC, eI (hN.1 rfl), eI (hN.2.1 rfl)]; clear hN; obtain ⟨m0, m1, m2, m3, m4, m5, m6, m7⟩ := HX.out wx ox
     go_wp2_with fail
     exact ⟨rfl, _, rfl, HTT.out _ _ (rfl) (Only.refl _ _)⟩
    ·intro x wx ox hN TT HTT; unfold StepTo; simp only [putAll, Act.put, zA, zB, zC, eI (hN.1 rfl), eI (hN.2.1 rfl)]; clear hN
     go_wp2_with fail
     exact ⟨rfl, _, rfl, HTT.out _ _ (rfl) (Only.refl _ _)⟩
    ·intro x wx ox hN TT HTT; unfold StepTo; simp only [putAll, Act.put, zA, zB, zC, eI (hN.1 rfl), eI (hN.2.1 rfl)]; clear hN
     go_wp2_with fail
     exact ⟨rfl, _, rfl, HTT.out _ _ (rfl) (Only.refl _ _)⟩
    ·intro x wx ox hN TT HTT; unfold StepTo; simp only [putAll, Act.put, zA, zB, zC, eI (hN.1 rfl), eI (hN.2.1 rfl)]; clear hN; obtain ⟨m0, m1, m2, m3, m4, m5, m6, m7⟩ := HX.out wx ox
     go_wp2_with fail
     exact ⟨rfl, _, rfl, HTT.out _ _ (rfl) (Only.refl _ _)⟩
    ·intro x wx ox hN TT HTT; unfold StepTo; simp only [putAll, Act.put, zA, zB, zC, eI (hN.1 rfl), eI (hN.2.1 rfl)]; clear hN
     go_wp2_with fail
     exact ⟨rfl, _, rfl, HTT.out _ _ (rfl) (Only.refl _ _)⟩
    ·intro x wx ox hN TT HTT; unfold StepTo; simp only [putAll, Act.put, zA, zB, zC, eI (hN.1 rfl), eI (hN.2.1 rfl)]; clear hN
     go_wp2_with fail
     exact ⟨rfl, _, rfl, HTT.out _ _ (rfl) (Only.refl _ _)⟩
    ·intro x wx ox hN TT HTT; unfold StepTo; simp only [putAll, Act.put, zA, zB, zC, eI (hN.1 rfl), eI (hN.2.1 rfl)]; clear hN; obtain ⟨m0, m1, m2, m3, m4, m5, m6, m7⟩ := HX.out wx ox
     go_wp2_with fail
     exact ⟨rfl, _, rfl, HTT.out _ _ (rfl) (Only.refl _ _)⟩
    ·intro x wx ox hN TT HTT; unfold StepTo; simp only [putAll, Act.put, zA, zB, zC, eI (hN.1 rfl)]; clear hN; obtain ⟨m0, m1, m2, m3, m4, m5, m6, m7⟩ := HX.out wx ox
     go_wp2_with fail
     exact ⟨rfl, _, rfl, HTT.out _ _ (rfl) (Only.refl _ _)⟩
    ·intro x wx ox hN TT HTT; unfold StepTo; simp only [putAll, Act.put, zA, zB, zC, eI (hN.1 rfl), eI (hN.2.1 rfl), eI (hN.2.2.1 rfl)]; clear hN; have ht := HTs.out wx ox; have HT := hid ht; clear ht
     go_wp2_with fail
     refine HT.out.mono ?_
     rintro e w6 ⟨rfl, o6⟩; have O6 := hid o6; clear o6
     go_wp2_with fail
     exact ⟨rfl, _, rfl, HTT.out _ _ (rfl) (O6.out)⟩
    ·intro x wx ox hN TT HTT; unfold StepTo; simp only [putAll, Act.put, zA, zB, zC, eI (hN.1 rfl), eI (hN.2.1 rfl)]; clear hN
     go_wp2_with fail
     exact ⟨rfl, _, rfl, HTT.out _ _ (rfl) (Only.refl _ _)⟩
    intro xz wxz oxz hN; simp only [putAll, Act.put, zA, zB, zC, eI hN.1, eI hN.2.1, eI hN.2.2.1, eI hN.2.2.2.1, eI hN.2.2.2.2.1, eI hN.2.2.2.2.2.1, eI hN.2.2.2.2.2.2.1, eI hN.2.2.2.2.2.2.2.1, eI hN.2.2.2.2.2.2.2.2.1, eI hN.2.2.2.2.2.2.2.2.2.1, eI hN.2.2.2.2.2.2.2.2.2.2.1, eI hN.2.2.2.2.2.2.2.2.2.2.2.1, eI hN.2.2.2.2.2.2.2.2.2.2.2.2.1, eI hN.2.2.2.2.2.2.2.2.2.2.2.2.2.1, eI hN.2.2.2.2.2.2.2.2.2.2.2.2.2.2.1, eI hN.2.2.2.2.2.2.2.2.2.2.2.2.2.2.2.1, eI hN.2.2.2.2.2.2.2.2.2.2.2.2.2.2.2.2.1, eI hN.2.2.2.2.2.2.2.2.2.2.2.2.2.2.2.2.2.1, eI hN.2.2.2.2.2.2.2.2.2.2.2.2.2.2.2.2.2.2.1, eI hN.2.2.2.2.2.2.2.2.2.2.2.2.2.2.2.2.2.2.2.1, eI hN.2.2.2.2.2.2.2.2.2.2.2.2.2.2.2.2.2.2.2.2.1, eI hN.2.2.2.2.2.2.2.2.2.2.2.2.2.2.2.2.2.2.2.2.2.1, eI hN.2.2.2.2.2.2.2.2.2.2.2.2.2.2.2.2.2.2.2.2.2.2.1, eI hN.2.2.2.2.2.2.2.2.2.2.2.2.2.2.2.2.2.2.2.2.2.2.2.1, eI hN.2.2.2.2.2.2.2.2.2.2.2.2.2.2.2.2.2.2.2.2.2.2.2.2.1, eI hN.2.2.2.2.2.2.2.2.2.2.2.2.2.2.2.2.2.2.2.2.2.2.2.2.2.1, eI hN.2.2.2.2.2.2.2.2.2.2.2.2.2.2.2.2.2.2.2.2.2.2.2.2.2.2.1, eI hN.2.2.2.2.2.2.2.2.2.2.2.2.2.2.2.2.2.2.2.2.2.2.2.2.2.2.2.1, eI hN.2.2.2.2.2.2.2.2.2.2.2.2.2.2.2.2.2.2.2.2.2.2.2.2.2.2.2.2.1, eI hN.2.2.2.2.2.2.2.2.2.2.2.2.2.2.2.2.2.2.2.2.2.2.2.2.2.2.2.2.2.1, eI hN.2.2.2.2.2.2.2.2.2.2.2.2.2.2.2.2.2.2.2.2.2.2.2.2.2.2.2.2.2.2.1, eI hN.2.2.2.2.2.2.2.2.2.2.2.2.2.2.2.2.2.2.2.2.2.2.2.2.2.2.2.2.2.2.2.1]; clear hN; have OZ := hid ((Only.refl _ wA).drew.trans oxz); clear oxz
    go_wp2_with fail
    go_ret
    exact ⟨rfl, (HOA.out.trans OZ.out).below (Nat.le_refl _) (fun _ _ h => h)⟩
   ·refine HJ.out.mono ?_
    rintro e w4 ⟨rfl, o4⟩; have HO4 := hid (HO3.out.trans o4); obtain ⟨wA, hwA⟩ := eX (w4.alloc (.cells #[.slice none 0 0, .slice none 0 0] 26)); have oa : Only (fun _ => False) w4 wA := by rw [← hwA]; exact (Only.refl _ w4).alloc _
    have J := hid (JA.out wA (HO4.out.trans oa)); have HO5 := hid (HO4.out.trans oa); have HWA := hid hwA; clear oa o4 HJ hwA
    go_upto_region 4 with (fail)
    rw [HWA.out]
    go_wp2_with fail
    refine J.out.mono ?_
    rintro e w5 ⟨rfl, o5⟩; have HO6 := hid (HO5.out.trans o5); clear o5
    go_wp2_with fail
    go_ret
    exact ⟨rfl, HO6.out.below (Nat.le_refl _) (fun _ _ h => h)⟩
end Go.Proofs.YtnkpoddbbdmipaaGreatDoor
