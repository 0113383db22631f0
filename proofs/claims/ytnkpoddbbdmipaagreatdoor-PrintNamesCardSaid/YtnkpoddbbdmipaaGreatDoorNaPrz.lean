/- print: inputs. The document's Same, of documents. The document's printer: documents. -/
import Derived.Test.YtnkpoddbbdmipaaGreatDoorNaPpw
import Derived.Test.YtnkpoddbbdmipaaGreatDoorNaPrs
import Derived.Test.YtnkpoddbbdmipaaGreatDoorNaTys
import Derived.Test.YtnkpoddbbdmipaaGreatDoorNaOwD
namespace Go.Proofs.YtnkpoddbbdmipaaGreatDoor
open Go Go.RowKit
set_option linter.unusedVariables false
set_option linter.unusedSimpArgs false

set_option maxRecDepth 100000 in
set_option maxHeartbeats 8000000 in
theorem ppI_any (nm : List UInt8) (t : TR) (has : Bool) (v : VT) (hw : has = true → WellQ v) (G : Nat → Prop) (w : World) (cs ds : List Value) (h : CellsAt w G (trC t) cs) (h' : CellsAt w G (valC v) ds) (ht : Tab w) (hl : (inpB nm t has v).length ≤ 1000000000000) :
  Calls Tryz.prog 46 #[.string ⟨nm.toArray⟩, .agg cs.toArray, .bool has, .agg ds.toArray] w (fun e w' => e = .returned (.string ⟨(inpB nm t has v).toArray⟩) ∧ Only (fun _ => False) w w') := by
 have hl0 := hl
 unfold inpB at hl0
 simp only [List.length_append] at hl0
 have hlt : (ren (typI t)).length ≤ 1000000000000 := by omega
 have hln : nm.length ≤ 1000000000000 := by omega
 have hta := fun (wx : World) (ox : Only (fun _ => False) w wx) => ppT_any t G wx cs (CellsAt.only ox (fun _ _ h => h) _ _ h) hlt
 have hva := fun (wx : World) (ox : Only (fun _ => False) w wx) (hh : has = true) => ppV_any v (hw hh) G wx ds (CellsAt.only ox (fun _ _ h => h) _ _ h') (ht.still ox) (by rw [if_pos hh, List.length_append] at hl0; omega)
 have hvl : has = true → (ren (valI v)).length ≤ 1000000000000 := fun hh => by rw [if_pos hh, List.length_append] at hl0; omega
 obtain ⟨s1, a1, l1, c1, b1, rfl⟩ := trC_form2 h
 obtain ⟨k, n, s2, a2, l2, e2, a3, l3, e3, rfl⟩ := valC_form2 h'
 obtain ⟨R, hR⟩ : ∃ R, inpB nm t has v = R := ⟨_, rfl⟩
 rw [hR]
 obtain ⟨wb, hwb⟩ : ∃ wb, (w.alloc (.cells #[.string ⟨s1.toArray⟩, .slice a1 l1 c1, .bool b1] 41)).alloc (.cells #[.int .u8 (k : Int), .int .i64 n, .string ⟨s2.toArray⟩, .slice a2 l2 e2, .slice a3 l3 e3] 35) = wb := ⟨_, rfl⟩
 have ob : Only (fun _ => False) w wb := by rw [← hwb]; exact ((Only.refl _ w).alloc _).alloc _
 obtain ⟨bA, hbA⟩ : ∃ b, w.heap.size = b := ⟨_, rfl⟩
 obtain ⟨bB, hbB⟩ : ∃ b, bA + 1 = b := ⟨_, rfl⟩
 have hx1 : wb.heap[bA]? = some (.cells #[.string ⟨s1.toArray⟩, .slice a1 l1 c1, .bool b1] 41 (0, 0)) := by rw [← hwb, ← hbA]; exact heap_old (heap_new w _) _
 have hx2 : wb.heap[bB]? = some (.cells #[.int .u8 (k : Int), .int .i64 n, .string ⟨s2.toArray⟩, .slice a2 l2 e2, .slice a3 l3 e3] 35 (0, 0)) := by
  rw [← hwb, ← hbB, ← hbA]
  have := heap_new (w.alloc (.cells #[.string ⟨s1.toArray⟩, .slice a1 l1 c1, .bool b1] 41)) (.cells #[.int .u8 (k : Int), .int .i64 n, .string ⟨s2.toArray⟩, .slice a2 l2 e2, .slice a3 l3 e3] 35)
  rw [World.size_alloc] at this; exact this
 obtain ⟨c0, c1', c2, -⟩ := boxN3 hx1
 obtain ⟨d0, d1, d2, d3, d4, -⟩ := boxN5 hx2
 have HD := Lib.hid (And.intro d0 (And.intro d1 (And.intro d2 (And.intro d3 d4))))
 have HOB := Lib.hid ob; have HWB := Lib.hid hwb; have HBA := Lib.hid hbA; have HBB := Lib.hid hbB
 have HT := Lib.hid (hta wb ob)
 have HV := Lib.hid (fun (wx : World) (ox : Only (fun _ => False) wb wx) => hva wx (HOB.out.trans ox))
 clear hx1 hx2 ob hwb hbA hbB h h' hta hva hw hl hl0 ht
 unfold inpB at hR
 generalize ren (typI t) = rt at *
 cases has with
 | false =>
  rw [if_neg (by decide), List.append_nil] at hR
  have HR := Lib.hid hR
  clear hR
  go_enter Tryz.func46, Tryz.ntmps46
  go_upto_region 1 with (fail)
  rw [HWB.out, HBA.out, HBB.out]
  go_wp2_with fail
  refine HT.out.mono ?_
  rintro e w6 ⟨rfl, o6⟩
  have HO6 := Lib.hid (HOB.out.trans o6)
  clear c0 c1' c2 d0 d1 d2 d3 d4 o6
  go_wp2_with fail
  go_ret
  rw [← HR.out]; simp only [← cat_list]
  exact ⟨rfl, HO6.out⟩
 | true =>
  rw [if_pos rfl] at hR
  have hl2 := hvl rfl
  clear hvl
  have HV' := Lib.hid (fun wx ox => HV.out wx ox rfl)
  have hR2 := hR
  generalize ren (valI v) = rv at *
  have HR := Lib.hid hR
  clear hR hR2 HV
  go_enter Tryz.func46, Tryz.ntmps46
  go_upto_region 1 with (fail)
  rw [HWB.out, HBA.out, HBB.out]
  go_wp2_with fail
  refine HT.out.mono ?_
  rintro e w6 ⟨rfl, o6⟩
  have HV6 := Lib.hid (HV'.out w6 o6)
  obtain ⟨z0, z1, z2, z3, z4⟩ := HD.out
  have z0 := keepc o6 z0; have z1 := keepc o6 z1; have z2 := keepc o6 z2; have z3 := keepc o6 z3; have z4 := keepc o6 z4
  have HO6 := Lib.hid (HOB.out.trans o6)
  clear c0 c1' c2 d0 d1 d2 d3 d4 o6 HV'
  go_wp2_with fail
  refine HV6.out.mono ?_
  rintro e w7 ⟨rfl, o7⟩
  have HO7 := Lib.hid (HO6.out.trans o7)
  clear z0 z1 z2 z3 z4 o7
  go_wp2_with fail
  go_ret
  rw [← HR.out]; simp only [← cat_list]
  exact ⟨rfl, HO7.out⟩
end Go.Proofs.YtnkpoddbbdmipaaGreatDoor
namespace Go.Proofs.YtnkpoddbbdmipaaGreatDoor
open Go Go.RowKit
set_option linter.unusedVariables false
set_option linter.unusedSimpArgs false

theorem doc_cells {w : World} {G : Nat → Prop} {d : DC} {x y : Value} (h : CellsAt w G (docC d) [x, y]) : CellAt w G (.row 4 (d.ops.map opC)) x ∧ CellAt w G (.row 3 (d.frags.map frC)) y := by
 obtain ⟨v1, us, e, h1, h⟩ := cells_cons h
 injection e with e1 e2; subst e1; subst e2
 obtain ⟨v2, us, e, h2, h⟩ := cells_cons h
 injection e with e1 e2; subst e1
 exact ⟨h1, h2⟩
end Go.Proofs.YtnkpoddbbdmipaaGreatDoor
namespace Go.Proofs.YtnkpoddbbdmipaaGreatDoor
open Go Go.RowKit
set_option linter.unusedVariables false
set_option linter.unusedSimpArgs false

theorem var_ren (v : VD) : ren (varI v) = [36] ++ inpB v.name v.t v.has v.v := by
 unfold varI
 rw [ren_cons, inp_ren]
 simp [ren, It.src, sgI, nmI]
theorem op_ren (mu : Bool) (nm : List UInt8) (vds : List VD) (sub : List SL) : ren (opI ⟨mu, nm, vds, sub⟩) = (if mu then [109, 117, 116, 97, 116, 105, 111, 110] else [113, 117, 101, 114, 121]) ++ (if nm = [] then [] else [32] ++ nm) ++ ren (parI (vds.map varI)) ++ ren (setI sub) := by
 unfold opI
 rw [ren_cons, ren_app, ren_app]
 cases mu <;> by_cases h : nm = [] <;> simp [h, ren, It.src, nmI, wMutation, wQuery]
theorem fr_ren (f : FR) : ren (frI f) = [102, 114, 97, 103, 109, 101, 110, 116, 32] ++ f.name ++ [32, 111, 110, 32] ++ f.on_ ++ ren (setI f.sub) := by
 unfold frI
 simp only [ren_cons]
 simp [It.src, nmI, wFragment, wOn]
end Go.Proofs.YtnkpoddbbdmipaaGreatDoor
