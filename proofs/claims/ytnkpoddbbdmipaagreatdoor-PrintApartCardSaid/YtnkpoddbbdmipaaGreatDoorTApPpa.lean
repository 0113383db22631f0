/- . -/
import Derived.Test.YtnkpoddbbdmipaaGreatDoorTApPpw
import Derived.Test.YtnkpoddbbdmipaaGreatDoorTApPjo
namespace Go.Proofs.YtnkpoddbbdmipaaGreatDoor
open Go Go.RowKit
open Go.Lib (hid)
set_option linter.unusedVariables false
set_option linter.unusedSimpArgs false
theorem arg_renQ (a : AR) : ren (argI a) = a.name ++ [58, 32] ++ ren (valI a.v) := by
 unfold argI pairI; rw [ren_cons, ren_cons, ren_cons]; simp [It.src, nmI, sgI]
set_option maxRecDepth 100000 in
set_option maxHeartbeats 16000000 in
theorem ppA1_any (a : AR) (hw : WellQ a.v) (G : Nat → Prop) (w : World) (cs : List Value) (h : CellsAt w G (argC a) cs) (ht : Tab w) (hl : (ren (argI a)).length ≤ 1000000000000) :
  Calls Tryz.prog 85 #[.agg cs.toArray] w (fun e w' => e = .returned (.string ⟨(ren (argI a)).toArray⟩) ∧ Only (fun _ => False) w w') := by
 obtain ⟨us, rfl, hu⟩ := arg_cells h; have hrec := fun (hlen : (ren (valI a.v)).length ≤ 1000000000000) (wx : World) (ox : Only (fun _ => False) w wx) => ppV_any a.v hw G wx us (CellsAt.only ox (fun _ _ h => h) _ _ hu) (ht.still ox) hlen
 obtain ⟨k, n, s, a1, l1, e1, a2, l2, e2, rfl⟩ := valC_form2 hu; rw [arg_renQ] at hl ⊢; obtain ⟨rv, hrv⟩ := eX (ren (valI a.v)); rw [hrv] at hrec hl ⊢; obtain ⟨nm, hnm⟩ := eX (a.name); rw [hnm] at hl ⊢; simp only [List.length_append, List.length_cons, List.length_nil] at hl; have hkl : nm.length ≤ 1000000000000 := by omega
 have hrl : rv.length ≤ 1000000000000 := by omega
 obtain ⟨bA, hbA⟩ := eX (w.heap.size); obtain ⟨wb, hwb⟩ := eX (w.alloc (.cells #[.string ⟨nm.toArray⟩, .int .u8 (k : Int), .int .i64 n, .string ⟨s.toArray⟩, .slice a1 l1 e1, .slice a2 l2 e2] 48)); have ob : Only (fun _ => False) w wb := by rw [← hwb]; exact (Only.refl _ w).alloc _
 have hx1 : wb.heap[bA]? = some (.cells #[.string ⟨nm.toArray⟩, .int .u8 (k : Int), .int .i64 n, .string ⟨s.toArray⟩, .slice a1 l1 e1, .slice a2 l2 e2] 48 (0, 0)) := by rw [← hwb, ← hbA]; exact heap_new w _
 have HX := hid hx1; have HOB := hid ob; have HWB := hid hwb; have HBA := hid hbA; have HREC := hid (hrec hrl); clear hx1 ob hwb hbA hrec h hu hrv hl; obtain ⟨R, hR⟩ := eX (nm ++ [58, 32] ++ rv); rw [hR]; have HRR := hid hR; clear hnm hR
 go_enter Tryz.func85, Tryz.ntmps85
 go_upto_region 1 with (fail)
 rw [HWB.out, HBA.out]; clear HWB HBA; refine wp_region_steps 7 (by kernel_rfl) rfl (by kernel_rfl) [some 3, some 4, some 5, some 6, some 7, some 8, some 9] rfl rfl (fun _ => False) [(fun v _ => v = (.pointer (some ⟨bA, 0, none⟩))), (fun v _ => v = (.string ⟨nm.toArray⟩)), (fun v _ => v = (.string (⟨nm.toArray⟩ ++ ⟨#[58, 32]⟩))), (fun v _ => v = (.pointer (some ⟨bA, 1, none⟩))), (fun v _ => v = (.agg #[.int .u8 (k : Int), .int .i64 n, .string ⟨s.toArray⟩, .slice a1 l1 e1, .slice a2 l2 e2])), (fun v _ => v = (.string ⟨rv.toArray⟩)), (fun v _ => v = (.string (⟨nm.toArray⟩ ++ ⟨#[58, 32]⟩ ++ ⟨rv.toArray⟩)))] rfl ⟨?_, ?_, ?_, ?_, ?_, ?_, ?_, trivial⟩ _ rfl ⟨?_, ?_, ?_, ?_, ?_, ?_, ?_, trivial⟩ ?_
 iterate 7 exact Stable.is _ _
 ·intro x wx ox hN TT HTT; unfold StepTo; simp only [putAll, Act.put, zA, zB, zC]; clear hN
  go_wp2_with fail
  exact ⟨rfl, _, rfl, HTT.out _ _ rfl oR⟩
 ·intro x wx ox hN TT HTT; unfold StepTo; simp only [putAll, Act.put, zA, zB, zC, eI (hN.1 rfl)]; clear hN; obtain ⟨x0, x1, x2, x3, x4, x5, -⟩ := boxN6 (((((Only.refl (fun _ => False) wb).drew).trans ox).block bA (gE HX.out).1 (fun h => h)).trans HX.out)
  go_wp2_with fail
  exact ⟨rfl, _, rfl, HTT.out _ _ rfl oR⟩
 ·intro x wx ox hN TT HTT; unfold StepTo; simp only [putAll, Act.put, zA, zB, zC, eI (hN.1 rfl)]; clear hN
  go_wp2_with fail
  exact ⟨rfl, _, rfl, HTT.out _ _ rfl oR⟩
 ·intro x wx ox hN TT HTT; unfold StepTo; simp only [putAll, Act.put, zA, zB, zC]; clear hN
  go_wp2_with fail
  exact ⟨rfl, _, rfl, HTT.out _ _ rfl oR⟩
 ·intro x wx ox hN TT HTT; unfold StepTo; simp only [putAll, Act.put, zA, zB, zC, eI (hN.1 rfl)]; clear hN; obtain ⟨x0, x1, x2, x3, x4, x5, -⟩ := boxN6 (((((Only.refl (fun _ => False) wb).drew).trans ox).block bA (gE HX.out).1 (fun h => h)).trans HX.out)
  go_wp2_with fail
  exact ⟨rfl, _, rfl, HTT.out _ _ rfl oR⟩
 ·intro x wx ox hN TT HTT; unfold StepTo; simp only [putAll, Act.put, zA, zB, zC, eI (hN.1 rfl)]; clear hN; have J := hid (HREC.out wx ((HOB.out.drew).trans ox))
  go_wp2_with fail
  refine J.out.mono ?_
  rintro e w6 ⟨rfl, o6⟩; have O6 := hid o6; clear o6
  go_wp2_with fail
  exact ⟨rfl, _, rfl, HTT.out _ _ rfl (O6.out)⟩
 ·intro x wx ox hN TT HTT; unfold StepTo; simp only [putAll, Act.put, zA, zB, zC, eI (hN.1 rfl), eI (hN.2.1 rfl)]; clear hN
  go_wp2_with fail
  exact ⟨rfl, _, rfl, HTT.out _ _ rfl oR⟩
 intro xz wxz oxz hN; simp only [putAll, Act.put, zA, zB, zC, eI hN.1, eI hN.2.1, eI hN.2.2.1, eI hN.2.2.2.1, eI hN.2.2.2.2.1, eI hN.2.2.2.2.2.1, eI hN.2.2.2.2.2.2.1]; clear hN; have HO9 := hid ((HOB.out.drew).trans oxz); clear oxz
 go_wp2_with fail
 go_ret
 rw [← HRR.out, ← cat_list, ← cat_list]; exact ⟨rfl, HO9.out⟩
set_option maxRecDepth 100000 in
set_option maxHeartbeats 16000000 in
theorem ppA_any (gs : List AR) (hw : ∀ a ∈ gs, WellQ a.v) (G : Nat → Prop) (w : World) (v : Value) (h : CellAt w G (.row 6 (gs.map argC)) v) (ht : Tab w) (hl : (ren (argsI gs)).length ≤ 1000000000000) :
  Calls Tryz.prog 60 #[v] w (fun e w' => e = .returned (.string ⟨(ren (argsI gs)).toArray⟩) ∧ Only (fun _ => False) w w') := by
 obtain ⟨a, c, rfl, k1, k2, k3⟩ := rows_at h; obtain ⟨L, hL⟩ := eX (gs.length)
 by_cases h0 : gs = []
 ·subst h0; have e : ren (argsI []) = [] := rfl; rw [e]; clear hw h ht hl k3 hL; simp only [List.length_nil] at k1 ⊢
  go_enter Tryz.func60, Tryz.ntmps60
  go_wp2_with fail
  go_ret
  exact ⟨rfl, oR⟩
 ·have hLp : 0 < L := by rw [← hL]; exact List.length_pos_iff.2 h0
  have he : ren (argsI gs) = [40] ++ Lib.join (gs.map fun a => ren (argI a)) [44, 32] ++ [41] := by
   unfold argsI parI; rw [if_neg (by simpa using h0), ren_cons, ren_app, sep_join, List.map_map]; rfl
  rw [he] at hl ⊢; have hjl : (Lib.join (gs.map fun a => ren (argI a)) [44, 32]).length ≤ 1000000000000 := by simp at hl; omega
  have J := pjoinA_any gs (fun a => ren (argI a)) G w (.slice a gs.length c) [44, 32] (by decide) h (fun i hi wx cs ox hc => by
   have hpl := sep_part gapI (gs.map argI) i (by rw [List.length_map]; exact hi); rw [sep_join, List.map_map] at hpl; have e : (gs.map argI)[i]'(by rw [List.length_map]; exact hi) = argI gs[i] := by simp
   rw [e] at hpl
   exact ppA1_any gs[i] (hw _ (List.getElem_mem hi)) G wx cs hc (ht.still ox) (Nat.le_trans hpl hjl)) hjl
  obtain ⟨jn, hjn⟩ := eX (Lib.join (gs.map fun a => ren (argI a)) [44, 32]); rw [hjn] at J hjl ⊢; rw [hL] at J k1 ⊢; have J := hid J; have t1 : ((L : Int) == 0) = false := by simp; omega
  obtain ⟨R, hR⟩ : ∃ x, [40] ++ jn ++ [41] = x := ⟨_, rfl⟩; rw [hR]; have HRR := hid hR; clear hR; clear hw h ht hl k3 he hjn hL h0
  go_enter Tryz.func60, Tryz.ntmps60
  go_wp2_with fail
  refine J.out.mono ?_
  rintro e w2 ⟨rfl, o2⟩; have HO2 := hid o2; clear o2
  go_wp2_with fail
  go_ret
  rw [← HRR.out, ← cat_list, ← cat_list]; exact ⟨rfl, HO2.out⟩
end Go.Proofs.YtnkpoddbbdmipaaGreatDoor
