/- . -/
import Derived.Test.YtnkpoddbbdmipaaGreatDoorTTyPpi
import Derived.Test.YtnkpoddbbdmipaaGreatDoorTTyPps
import Derived.Test.YtnkpoddbbdmipaaGreatDoorTTyPjp
import Derived.Test.YtnkpoddbbdmipaaGreatDoorTTyPrs
namespace Go.Proofs.YtnkpoddbbdmipaaGreatDoor
open Go Go.RowKit
open Go.Lib (hid)
set_option linter.unusedVariables false
set_option linter.unusedSimpArgs false
theorem ins_renQ {l : List IN} (h : l ≠ []) : ren (parI (l.map inI)) = [40] ++ Lib.join ((l.map FD.of).map fun f => ren (fdI f)) [44, 32] ++ [41] := by
 unfold parI; rw [if_neg (by simpa using h), ren_cons, ren_app, sep_join, List.map_map, List.map_map]; rw [show (l.map (ren ∘ inI)) = l.map ((fun f => ren (fdI f)) ∘ FD.of) from List.map_congr_left fun i _ => (of_ren i).symm]
 rfl
def PpF (f : FD) : Prop := ∀ (G : Nat → Prop) (w : World) (cs : List Value), CellsAt w G (fdC f) cs → Tab w → (ren (fdI f)).length ≤ 1000000000000 →
  Calls Tryz.prog 66 #[.agg cs.toArray] w (fun e w' => e = .returned (.string ⟨(ren (fdI f)).toArray⟩) ∧ Only (fun _ => False) w w')
set_option maxRecDepth 100000 in
set_option maxHeartbeats 16000000 in
theorem ppF_of (f : FD) (hw : f.has = true → WellQ f.v) (ih : ∀ i ∈ f.args, PpF (FD.of i)) : PpF f := by
 intro G w cs h ht hl; obtain ⟨gv, ts, us, rfl, hg, hta, hu⟩ := fd_cells h; have hg0 : CellAt w G (.row 11 ((f.args.map FD.of).map fdC)) gv := by rw [List.map_map]; exact hg
 obtain ⟨ag, cg, rfl, k1, k2, -⟩ := rows_at hg; have hfr : ren (fdI f) = inpB (f.name ++ ren (parI (f.args.map inI))) f.t f.has f.v := by
  unfold fdI; rw [inp_ren, ren_cons]; rfl
 have hpl : (f.name ++ ren (parI (f.args.map inI))).length ≤ 1000000000000 := by
  rw [hfr] at hl; unfold inpB at hl; simp only [List.length_append] at hl ⊢; omega
 have JI := fun (wx : World) (ox : Only (fun _ => False) w wx) => ppI_any (f.name ++ ren (parI (f.args.map inI))) f.t f.has f.v hw G wx ts us (CellsAt.only ox (fun _ _ h => h) _ _ hta) (CellsAt.only ox (fun _ _ h => h) _ _ hu) (ht.still ox) (by rw [← hfr]; exact hl)
 have JJ : f.args ≠ [] → ∀ (wx : World) (ox : Only (fun _ => False) w wx), Calls Tryz.prog 65 #[.slice ag f.args.length cg, .string ⟨#[44, 32]⟩, .func (.func 66) #[] #[]] wx (fun e w' => e = .returned (.string ⟨(Lib.join ((f.args.map FD.of).map fun f => ren (fdI f)) [44, 32]).toArray⟩) ∧ Only (fun _ => False) wx w') := fun hne wx ox => by
  rw [ins_renQ hne] at hpl; have hjl : (Lib.join ((f.args.map FD.of).map fun f => ren (fdI f)) [44, 32]).length ≤ 1000000000000 := by simp only [List.length_append] at hpl; omega
  exact pjoinF_any (f.args.map FD.of) (fun f => ren (fdI f)) G wx _ [44, 32] (by decide) (CellAt.only ox (fun _ _ h => h) _ _ hg0) (fun j hj wy cs oy hcs => by
   have hq := join_part (fun f => ren (fdI f)) [44, 32] (f.args.map FD.of) j hj; have hm : (f.args.map FD.of)[j] ∈ f.args.map FD.of := List.getElem_mem hj; obtain ⟨i, hi, e⟩ := List.mem_map.1 hm; rw [← e] at hcs hq ⊢
   exact ih i hi G wy cs hcs (ht.still (ox.trans oy)) (Nat.le_trans hq hjl)) hjl
 have hne : f.args ≠ [] → ren (parI (f.args.map inI)) = [40] ++ Lib.join ((f.args.map FD.of).map fun f => ren (fdI f)) [44, 32] ++ [41] := ins_renQ; have he0 : f.args = [] → ren (parI (f.args.map inI)) = [] := fun e => by rw [e]; rfl
 have hL0 : f.args = [] ↔ f.args.length = 0 := ⟨fun e => by rw [e]; rfl, fun e => List.length_eq_zero_iff.1 e⟩; rw [← hfr] at JI; obtain ⟨s1, a1, l1, c1, b1, rfl⟩ := trC_form2 hta; obtain ⟨k, n, s2, a2, l2, e2, a3, l3, e3, rfl⟩ := valC_form2 hu; obtain ⟨R, hR⟩ := eX (ren (fdI f)); obtain ⟨P, hP⟩ := eX (ren (parI (f.args.map inI))); obtain ⟨jn, hjn⟩ := eX (Lib.join ((f.args.map FD.of).map fun f => ren (fdI f)) [44, 32]); obtain ⟨L, hL⟩ := eX (f.args.length); obtain ⟨nm, hnm⟩ := eX (f.name); obtain ⟨hs, hhs⟩ := eX (f.has); rw [hR, hP, hnm, hhs] at JI; rw [hjn, hL] at JJ; rw [hP, hjn] at hne; rw [hP] at he0; rw [hP, hnm] at hpl; rw [hL] at hL0; rw [hnm, hhs, hL, hR]; simp only [List.cons_append, List.nil_append] at JI ⊢; obtain ⟨bA, hbA⟩ := eX (w.heap.size); obtain ⟨wb, hwb⟩ := eX (w.alloc (.cells #[.string ⟨nm.toArray⟩, .slice ag L cg, .string ⟨s1.toArray⟩, .slice a1 l1 c1, .bool b1, .bool hs, .int .u8 (k : Int), .int .i64 n, .string ⟨s2.toArray⟩, .slice a2 l2 e2, .slice a3 l3 e3] 104)); have ob : Only (fun _ => False) w wb := by rw [← hwb]; exact (Only.refl _ w).alloc _
 have hx1 : wb.heap[bA]? = some (.cells #[.string ⟨nm.toArray⟩, .slice ag L cg, .string ⟨s1.toArray⟩, .slice a1 l1 c1, .bool b1, .bool hs, .int .u8 (k : Int), .int .i64 n, .string ⟨s2.toArray⟩, .slice a2 l2 e2, .slice a3 l3 e3] 104 (0, 0)) := by rw [← hwb, ← hbA]; exact heap_new w _
 obtain ⟨q0, q1, q2, q3, q4, q5, q6, q7, q8, q9, q10, -⟩ := boxN11 hx1; have HX := hid hx1; have HOB := hid ob; have HWB := hid hwb; have HBA := hid hbA; have JI := hid JI; have JJ := hid JJ; rw [hL] at k1; have HNE := hid (fun (z : 0 < L) => hne (fun e => by have := hL0.1 e; omega)); have HE0 := hid (fun (z : L = 0) => he0 (hL0.2 z)); have HJ := hid (fun (z : 0 < L) => JJ.out (fun e => by have := hL0.1 e; omega)); clear hx1 ob hwb hbA h hl hg hg0 hta hu hfr hR hP hjn hL hnm hhs hne he0 hL0 JJ hw ih ht
 by_cases hz : L = 0
 ·have hP := HE0.out hz; subst hz; have J := JI.out wb HOB.out; rw [hP, List.append_nil] at J; have J := hid J; clear hP HE0 HNE HJ JI hpl
  go_enter Tryz.func66, Tryz.ntmps66
  go_upto_region 1 with (fail)
  rw [HWB.out, HBA.out]; clear HWB HBA
  go_wp2_with fail
  refine J.out.mono ?_
  rintro e w3 ⟨rfl, o3⟩; have HO3 := hid (HOB.out.trans o3); clear o3 q0 q1 q2 q3 q4 q5 q6 q7 q8 q9 q10
  go_wp2_with fail
  go_ret
  exact ⟨rfl, HO3.out⟩
 ·have hp : 0 < L := by omega
  have t2 : decide ((L : Int) > 0) = true := decide_eq_true (by omega); have hP := HNE.out hp; have J := hid (HJ.out hp wb HOB.out); have hcat : (⟨nm.toArray⟩ : ByteArray) ++ ({ data := #[40] } ++ ⟨jn.toArray⟩ ++ { data := #[41] }) = ⟨(nm ++ P).toArray⟩ := by
   rw [hP, ← cat_list, ← cat_list, ← cat_list]
  have hll : nm.length + (1 + jn.length + 1) ≤ 1000000000000 := by rw [hP] at hpl; simp only [List.length_append, List.length_cons, List.length_nil] at hpl; omega
  have HC := hid hcat; clear hcat hP HE0 HNE HJ hz hpl
  go_enter Tryz.func66, Tryz.ntmps66
  go_upto_region 1 with (fail)
  rw [HWB.out, HBA.out]; clear HWB HBA
  go_wp2_with fail
  refine J.out.mono ?_
  rintro e w3 ⟨rfl, o3⟩; have HO3 := hid (HOB.out.trans o3); have q0 := keepc o3 q0; have q1 := keepc o3 q1; have q2 := keepc o3 q2; have q3 := keepc o3 q3; have q4 := keepc o3 q4; have q5 := keepc o3 q5; have q6 := keepc o3 q6; have q7 := keepc o3 q7; have q8 := keepc o3 q8; have q9 := keepc o3 q9; have q10 := keepc o3 q10; have K := hid (JI.out w3 HO3.out); clear o3 J JI
  go_wp2_with fail
  rw [HC.out]; refine K.out.mono ?_
  rintro e w4 ⟨rfl, o4⟩; have HO4 := hid (HO3.out.trans o4); clear o4 q0 q1 q2 q3 q4 q5 q6 q7 q8 q9 q10
  go_wp2_with fail
  go_ret
  exact ⟨rfl, HO4.out⟩
def WellFQ (f : FD) : Prop := (f.has = true → WellQ f.v) ∧ ∀ i ∈ f.args, i.has = true → WellQ i.v
theorem ppF_any (f : FD) (h : WellFQ f) : PpF f := ppF_of f h.1 fun i hi => ppF_of (FD.of i) (h.2 i hi) fun j hj => by cases hj
end Go.Proofs.YtnkpoddbbdmipaaGreatDoor
