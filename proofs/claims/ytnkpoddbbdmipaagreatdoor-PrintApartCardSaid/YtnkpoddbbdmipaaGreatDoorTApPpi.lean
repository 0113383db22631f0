/- . -/
import Derived.Test.YtnkpoddbbdmipaaGreatDoorTApPpw
import Derived.Test.YtnkpoddbbdmipaaGreatDoorTApPrk
namespace Go.Proofs.YtnkpoddbbdmipaaGreatDoor
open Go Go.RowKit
open Go.Lib (hid)
set_option linter.unusedVariables false
set_option linter.unusedSimpArgs false
set_option maxRecDepth 100000 in
set_option maxHeartbeats 8000000 in
theorem ppI_any (nm : List UInt8) (t : TR) (has : Bool) (v : VT) (hw : has = true → WellQ v) (G : Nat → Prop) (w : World) (cs ds : List Value) (h : CellsAt w G (trC t) cs) (h' : CellsAt w G (valC v) ds) (ht : Tab w) (hl : (inpB nm t has v).length ≤ 1000000000000) :
  Calls Tryz.prog 46 #[.string ⟨nm.toArray⟩, .agg cs.toArray, .bool has, .agg ds.toArray] w (fun e w' => e = .returned (.string ⟨(inpB nm t has v).toArray⟩) ∧ Only (fun _ => False) w w') := by
 have hl0 := hl; unfold inpB at hl0; simp only [List.length_append] at hl0; have hlt : (ren (typI t)).length ≤ 1000000000000 := by omega
 have hln : nm.length ≤ 1000000000000 := by omega
 have hta := fun (wx : World) (ox : Only (fun _ => False) w wx) => ppT_any t G wx cs (CellsAt.only ox (fun _ _ h => h) _ _ h) hlt
 have hva := fun (wx : World) (ox : Only (fun _ => False) w wx) (hh : has = true) => ppV_any v (hw hh) G wx ds (CellsAt.only ox (fun _ _ h => h) _ _ h') (ht.still ox) (by rw [if_pos hh, List.length_append] at hl0; omega)
 have hvl : has = true → (ren (valI v)).length ≤ 1000000000000 := fun hh => by rw [if_pos hh, List.length_append] at hl0; omega
 obtain ⟨s1, a1, l1, c1, b1, rfl⟩ := trC_form2 h; obtain ⟨k, n, s2, a2, l2, e2, a3, l3, e3, rfl⟩ := valC_form2 h'; obtain ⟨R, hR⟩ := eX (inpB nm t has v); rw [hR]; obtain ⟨wb, hwb⟩ := eX ((w.alloc (.cells #[.string ⟨s1.toArray⟩, .slice a1 l1 c1, .bool b1] 41)).alloc (.cells #[.int .u8 (k : Int), .int .i64 n, .string ⟨s2.toArray⟩, .slice a2 l2 e2, .slice a3 l3 e3] 35)); have ob : Only (fun _ => False) w wb := by rw [← hwb]; exact ((Only.refl _ w).alloc _).alloc _
 obtain ⟨bA, hbA⟩ := eX (w.heap.size); obtain ⟨bB, hbB⟩ := eX (bA + 1); have hx1 : wb.heap[bA]? = some (.cells #[.string ⟨s1.toArray⟩, .slice a1 l1 c1, .bool b1] 41 (0, 0)) := by rw [← hwb, ← hbA]; exact heap_old (heap_new w _) _
 have hx2 : wb.heap[bB]? = some (.cells #[.int .u8 (k : Int), .int .i64 n, .string ⟨s2.toArray⟩, .slice a2 l2 e2, .slice a3 l3 e3] 35 (0, 0)) := by
  rw [← hwb, ← hbB, ← hbA]; have := heap_new (w.alloc (.cells #[.string ⟨s1.toArray⟩, .slice a1 l1 c1, .bool b1] 41)) (.cells #[.int .u8 (k : Int), .int .i64 n, .string ⟨s2.toArray⟩, .slice a2 l2 e2, .slice a3 l3 e3] 35); rw [World.size_alloc] at this; exact this
 obtain ⟨c0, c1', c2, -⟩ := boxN3 hx1; obtain ⟨d0, d1, d2, d3, d4, -⟩ := boxN5 hx2; have HD := hid (And.intro d0 (And.intro d1 (And.intro d2 (And.intro d3 d4)))); have HOB := hid ob; have HWB := hid hwb; have HBA := hid hbA; have HBB := hid hbB; have HT := hid (hta wb ob); have HV := hid (fun (wx : World) (ox : Only (fun _ => False) wb wx) => hva wx (HOB.out.trans ox)); clear hx1 hx2 ob hwb hbA hbB h h' hta hva hw hl hl0 ht; unfold inpB at hR
 generalize ren (typI t) = rt at *
 cases has with
 | false =>
  rw [if_neg (by decide), List.append_nil] at hR; have HR := hid hR; clear hR
  go_enter Tryz.func46, Tryz.ntmps46
  go_upto_region 1 with (fail)
  rw [HWB.out, HBA.out, HBB.out]
  go_wp2_with fail
  refine HT.out.mono ?_
  rintro e w6 ⟨rfl, o6⟩; have HO6 := hid (HOB.out.trans o6); clear c0 c1' c2 d0 d1 d2 d3 d4 o6
  go_wp2_with fail
  go_ret
  rw [← HR.out]; simp only [← cat_list]; exact ⟨rfl, HO6.out⟩
 | true =>
  rw [if_pos rfl] at hR; have hl2 := hvl rfl; clear hvl; have HV' := hid (fun wx ox => HV.out wx ox rfl); have hR2 := hR
  generalize ren (valI v) = rv at *
  have HR := hid hR; clear hR hR2 HV
  go_enter Tryz.func46, Tryz.ntmps46
  go_upto_region 1 with (fail)
  rw [HWB.out, HBA.out, HBB.out]
  go_wp2_with fail
  refine HT.out.mono ?_
  rintro e w6 ⟨rfl, o6⟩; have HV6 := hid (HV'.out w6 o6); obtain ⟨z0, z1, z2, z3, z4⟩ := HD.out; have z0 := keepc o6 z0; have z1 := keepc o6 z1; have z2 := keepc o6 z2; have z3 := keepc o6 z3; have z4 := keepc o6 z4; have HO6 := hid (HOB.out.trans o6); clear c0 c1' c2 d0 d1 d2 d3 d4 o6 HV'
  go_wp2_with fail
  refine HV6.out.mono ?_
  rintro e w7 ⟨rfl, o7⟩; have HO7 := hid (HO6.out.trans o7); clear z0 z1 z2 z3 z4 o7
  go_wp2_with fail
  go_ret
  rw [← HR.out]; simp only [← cat_list]; exact ⟨rfl, HO7.out⟩
end Go.Proofs.YtnkpoddbbdmipaaGreatDoor
