/- . -/
import Derived.Below
import Derived.Test.YtnkpoddbbdmipaaGreatDoorUaAw8
import Derived.Test.YtnkpoddbbdmipaaGreatDoorUaVlp
import Derived.Test.YtnkpoddbbdmipaaGreatDoorUaTrv
import Derived.Test.YtnkpoddbbdmipaaGreatDoorUaPpv
namespace Go.Proofs.YtnkpoddbbdmipaaGreatDoor
open Go Go.RowKit
open Go.Lib (hid)
set_option linter.unusedVariables false
set_option linter.unusedSimpArgs false
set_option maxRecDepth 100000 in
set_option maxHeartbeats 16000000 in
theorem pvalues_walk (v0 : Value) (w : World) {H : Type} {enc : TypeId × Value → H} {d0 : DataW H} {p0 : List MemPlace} (h0 : DataW.Trod enc Tryz.prog w 0 (fun _ => true) true 35 v0 d0 p0) {base : Nat} (hok : Value.okWide Tryz.prog w .any base 35 v0) (ht : Tab w) :
  Calls Tryz.prog 4 #[v0] w fun e w' => e = .returned (.bool true) ∧ Below w.heap.size w w' := by
 obtain ⟨t, cs, rfl, hv⟩ := value_of_Trod h0; have hv' := hv; obtain ⟨k, n, s, ak, lk, ck, av, lv, cv, rfl⟩ := valAt_form hv; have hc := valAt_cells t _ hv; obtain ⟨bA, hbA⟩ := eX (w.heap.size); obtain ⟨wb, hwb⟩ := eX (w.alloc (.cells #[.int .u8 k, .int .i64 n, .string ⟨s.toArray⟩, .slice ak lk ck, .slice av lv cv] 35)); have ob : Only (fun _ => False) w wb := by rw [← hwb]; exact (Only.refl _ w).alloc _
 have hx1 : wb.heap[bA]? = some (.cells #[.int .u8 k, .int .i64 n, .string ⟨s.toArray⟩, .slice ak lk ck, .slice av lv cv] 35 (0, 0)) := by rw [← hwb, ← hbA]; exact heap_new w _
 have JA := hid (fun (wx : World) (ox : Only (fun _ => False) w wx) => awake08 wx (ht.still ox)); have JG := hid (fun (wx : World) (ox : Only (fun _ => False) w wx) => rGreat t _ wx _ (valAt_only ox (fun _ _ h => h) t _ hv')); have JF := hid (fun (wx : World) (ox : Only (fun _ => False) w wx) => rForm (SizeOf.sizeOf t) t (Nat.le_refl _) _ wx _ 0 (valAt_only ox (fun _ _ h => h) t _ hv') (by omega)); have JQ : greatV t = false → formV t 0 = true → WellQ t ∧ (ren (valI t)).length ≤ 1000000000000 := fun h1 h2 => by
  have hw := form_wellQ t 0 _ hv' h2; exact ⟨hw, by have := val_len hw h1 h2; omega⟩
 have HPP := fun (hq : WellQ t) (hl : (ren (valI t)).length ≤ 1000000000000) (wx : World) (ox : Only (fun _ => False) w wx) => ppV_any t hq _ wx _ (CellsAt.only ox (fun _ _ h => h) _ _ hc) (ht.still ox) hl
 have HPR := fun (hq : WellQ t) (hl : (ren (valI t)).length ≤ 1000000000000) (wx : World) (ox : Only (fun _ => False) w wx) => prV_any t hq.well _ wx _ (CellsAt.only ox (fun _ _ h => h) _ _ hc) hl
 obtain ⟨q, hq⟩ := eX (ren (valI t)); rw [hq] at HPP HPR JQ; obtain ⟨gb, hgb⟩ := eX (greatV t); obtain ⟨fb, hfb⟩ := eX (formV t 0); rw [hgb] at JG JQ; have JF : Hid (∀ (wx : World) (ox : Only (fun _ => False) w wx), Calls Tryz.prog 17 #[.agg #[.int .u8 k, .int .i64 n, .string ⟨s.toArray⟩, .slice ak lk ck, .slice av lv cv], .int .i64 0] wx (fun e w' => e = .returned (.bool fb) ∧ Only (fun _ => False) wx w')) := hid (fun wx ox => by rw [← hfb]; exact JF.out wx ox); rw [hfb] at JQ; have JQ := hid JQ; have HPP := hid HPP; have HPR := hid HPR; have HX1 := hid hx1; have HOB := hid ob; have HWB := hid hwb; have HBA := hid hbA; obtain ⟨x0, x1, x2, x3, x4⟩ := box_cells hx1; clear h0 hok ht hv hv' hc hx1 ob hwb hbA hq hgb hfb; have J := hid (JA.out wb HOB.out)
 go_enter Tryz.func4, Tryz.ntmps4
 go_upto_region 1 with (fail)
 rw [HWB.out, HBA.out]; clear HWB HBA
 go_wp2_with fail
 refine J.out.mono ?_
 rintro e w1 ⟨rfl, o1⟩; have HO1 := hid (HOB.out.trans o1); have O1 := hid o1; have x0 := keepc o1 x0; have x1 := keepc o1 x1; have x2 := keepc o1 x2; have x3 := keepc o1 x3; have x4 := keepc o1 x4; have J := hid (JG.out w1 HO1.out); clear o1
 go_wp2_with fail
 refine J.out.mono ?_
 rintro e w2 ⟨rfl, o2⟩; have HO2 := hid (HO1.out.trans o2); have O2 := hid (O1.out.trans o2); have x0 := keepc o2 x0; have x1 := keepc o2 x1; have x2 := keepc o2 x2; have x3 := keepc o2 x3; have x4 := keepc o2 x4; clear o2 J
 cases gb with
 | true =>
  have J := hid (JA.out w2 HO2.out)
  go_wp2_with fail
  refine J.out.mono ?_
  rintro e w3 ⟨rfl, o3⟩; have HO3 := hid (HO2.out.trans o3); clear o3 x0 x1 x2 x3 x4
  go_wp2_with fail
  go_ret
  exact ⟨rfl, HO3.out.below (Nat.le_refl _) (fun _ _ h => h)⟩
 | false =>
  have J := hid (JF.out w2 HO2.out)
  go_wp2_with fail
  refine J.out.mono ?_
  rintro e w3 ⟨rfl, o3⟩; have HO3 := hid (HO2.out.trans o3); have O3 := hid (O2.out.trans o3); have x0 := keepc o3 x0; have x1 := keepc o3 x1; have x2 := keepc o3 x2; have x3 := keepc o3 x3; have x4 := keepc o3 x4; clear o3 J
  cases fb with
  | false =>
   have J := hid (JA.out w3 HO3.out)
   go_wp2_with fail
   refine J.out.mono ?_
   rintro e w4 ⟨rfl, o4⟩; have HO4 := hid (HO3.out.trans o4); clear o4 x0 x1 x2 x3 x4
   go_wp2_with fail
   go_ret
   exact ⟨rfl, HO4.out.below (Nat.le_refl _) (fun _ _ h => h)⟩
  | true =>
   obtain ⟨hw, hl⟩ := JQ.out (by trivial) (by trivial); have HTP := hid (fun (wx : World) (ox : Only (fun _ => False) w3.drew wx) => HPP.out hw hl wx (HO3.out.trans ((Only.refl _ w3).drew.trans ox))); have HTR := hid (fun (wx : World) (ox : Only (fun _ => False) w3.drew wx) => HPR.out hw hl wx (HO3.out.trans ((Only.refl _ w3).drew.trans ox))); have HX := hid (fun (wx : World) (ox : Only (fun _ => False) w3.drew wx) => have o := (Only.refl _ w3).drew.trans ox; And.intro (keepc o x0) (And.intro (keepc o x1) (And.intro (keepc o x2) (And.intro (keepc o x3) (keepc o x4))))); clear hw hl
   go_upto_region 3 with (fail)
   clear x0 x1 x2 x3 x4; refine wp_region_steps 5 (by kernel_rfl) rfl (by kernel_rfl) [some 15, some 16, some 17, some 18, some 19] rfl rfl (fun _ => False) [(fun v _ => v = (.agg #[.int .u8 k, .int .i64 n, .string ⟨s.toArray⟩, .slice ak lk ck, .slice av lv cv])), (fun v _ => v = (.string ⟨q.toArray⟩)), (fun v _ => v = (.agg #[.int .u8 k, .int .i64 n, .string ⟨s.toArray⟩, .slice ak lk ck, .slice av lv cv])), (fun v _ => v = (.string ⟨q.toArray⟩)), (fun v _ => v = (.bool true))] rfl ⟨?_, ?_, ?_, ?_, ?_, trivial⟩ _ rfl ⟨?_, ?_, ?_, ?_, ?_, trivial⟩ ?_
   iterate 5 exact Stable.is _ _
   ·intro x wx ox hN TT HTT; unfold StepTo; simp only [putAll, Act.put, zA, zB, zC]; clear hN; obtain ⟨m0, m1, m2, m3, m4⟩ := HX.out wx ox
    go_wp2_with fail
    exact ⟨rfl, _, rfl, HTT.out _ _ (rfl) (Only.refl _ _)⟩
   ·intro x wx ox hN TT HTT; unfold StepTo; simp only [putAll, Act.put, zA, zB, zC, eI (hN.1 rfl)]; clear hN; have ht := HTP.out wx ox; have HT := hid ht; clear ht
    go_wp2_with fail
    refine HT.out.mono ?_
    rintro e w6 ⟨rfl, o6⟩; have O6 := hid o6; clear o6
    go_wp2_with fail
    exact ⟨rfl, _, rfl, HTT.out _ _ (rfl) (O6.out)⟩
   ·intro x wx ox hN TT HTT; unfold StepTo; simp only [putAll, Act.put, zA, zB, zC]; clear hN; obtain ⟨m0, m1, m2, m3, m4⟩ := HX.out wx ox
    go_wp2_with fail
    exact ⟨rfl, _, rfl, HTT.out _ _ (rfl) (Only.refl _ _)⟩
   ·intro x wx ox hN TT HTT; unfold StepTo; simp only [putAll, Act.put, zA, zB, zC, eI (hN.1 rfl), eI (hN.2.1 rfl)]; clear hN; have ht := HTR.out wx ox; have HT := hid ht; clear ht
    go_wp2_with fail
    refine HT.out.mono ?_
    rintro e w6 ⟨rfl, o6⟩; have O6 := hid o6; clear o6
    go_wp2_with fail
    exact ⟨rfl, _, rfl, HTT.out _ _ (rfl) (O6.out)⟩
   ·intro x wx ox hN TT HTT; unfold StepTo; simp only [putAll, Act.put, zA, zB, zC, eI (hN.1 rfl), eI (hN.2.1 rfl)]; clear hN
    go_wp2_with fail
    exact ⟨rfl, _, rfl, HTT.out _ _ (rfl) (Only.refl _ _)⟩
   intro xz wxz oxz hN; simp only [putAll, Act.put, zA, zB, zC, eI hN.1, eI hN.2.1, eI hN.2.2.1, eI hN.2.2.2.1, eI hN.2.2.2.2.1]; clear hN; have OZ := hid ((Only.refl _ w3).drew.trans oxz); clear oxz
   go_wp2_with fail
   go_ret
   exact ⟨rfl, (HO3.out.trans OZ.out).below (Nat.le_refl _) (fun _ _ h => h)⟩
end Go.Proofs.YtnkpoddbbdmipaaGreatDoor
