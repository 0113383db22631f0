/- . -/
import Derived.Test.YtnkpoddbbdmipaaGreatDoorTDcOwD
import Derived.Test.YtnkpoddbbdmipaaGreatDoorTDcPjo
import Derived.Test.YtnkpoddbbdmipaaGreatDoorTDcSmv
namespace Go.Proofs.YtnkpoddbbdmipaaGreatDoor
open Go Go.RowKit
open Go.Lib (hid)
set_option linter.unusedVariables false
set_option linter.unusedSimpArgs false
theorem arg_renQ (a : AR) : ren (argI a) = a.name ++ [58, 32] ++ ren (valI a.v) := by
 unfold argI pairI; rw [ren_cons, ren_cons, ren_cons]; simp [It.src, nmI, sgI]
set_option maxRecDepth 100000 in
set_option maxHeartbeats 16000000 in
theorem ppA1_any (a : AR) (hw : WellQ a.v) (G : Nat → Prop) (w : World) (cs : List Value) (h : CellsAt w G (argC a) cs) (ht : Tab w) (hl : (ren (argI a)).length ≤ 1000000000000) :
  Calls Tryz.prog 85 #[.agg cs.toArray] w (fun e w' => e = .returned (.string ⟨(ren (argI a)).toArray⟩) ∧ Only (fun _ => False) w w') := by
 obtain ⟨us, rfl, hu⟩ := arg_cells h; have hrec := fun (hlen : (ren (valI a.v)).length ≤ 1000000000000) (wx : World) (ox : Only (fun _ => False) w wx) => ppV_any a.v hw G wx us (CellsAt.only ox (fun _ _ h => h) _ _ hu) (ht.still ox) hlen
 obtain ⟨k, n, s, a1, l1, e1, a2, l2, e2, rfl⟩ := valC_form2 hu; rw [arg_renQ] at hl ⊢; obtain ⟨rv, hrv⟩ := eX (ren (valI a.v)); rw [hrv] at hrec hl ⊢; obtain ⟨nm, hnm⟩ := eX (a.name); rw [hnm] at hl ⊢; simp only [List.length_append, List.length_cons, List.length_nil] at hl; have hkl : nm.length ≤ 1000000000000 := by omega
 have hrl : rv.length ≤ 1000000000000 := by omega
 obtain ⟨bA, hbA⟩ := eX (w.heap.size); obtain ⟨wb, hwb⟩ := eX (w.alloc (.cells #[.string ⟨nm.toArray⟩, .int .u8 (k : Int), .int .i64 n, .string ⟨s.toArray⟩, .slice a1 l1 e1, .slice a2 l2 e2] 48)); have ob : Only (fun _ => False) w wb := by rw [← hwb]; exact (Only.refl _ w).alloc _
 have hx1 : wb.heap[bA]? = some (.cells #[.string ⟨nm.toArray⟩, .int .u8 (k : Int), .int .i64 n, .string ⟨s.toArray⟩, .slice a1 l1 e1, .slice a2 l2 e2] 48 (0, 0)) := by rw [← hwb, ← hbA]; exact heap_new w _
 have HX := hid hx1; have HOB := hid ob; have HWB := hid hwb; have HBA := hid hbA; have HREC := hid (hrec hrl); clear hx1 ob hwb hbA hrec h hu hrv hl; obtain ⟨R, hR⟩ := eX (nm ++ [58, 32] ++ rv); rw [hR]; have HRR := hid hR; clear hnm hR
 go_enter Tryz.func85, Tryz.ntmps85
 go_upto_region 1 with (fail)
 rw [HWB.out, HBA.out]; clear HWB HBA; refine wp_region_steps 7 (by kernel_rfl) rfl (by kernel_rfl) [some 3, some 4, some 5, some 6, some 7, some 8, some 9] rfl rfl (fun _ => False) [(fun v _ => v = (.pointer (some ⟨bA, 0, none⟩))), (fun v _ => v = (.string ⟨nm.toArray⟩)), (fun v _ => v = (.string (⟨nm.toArray⟩ ++ ⟨#[58, 32]⟩))), (fun v _ => v = (.pointer (some ⟨bA, 1, none⟩))), (fun v _ => v = (.agg #[.int .u8 (k : Int), .int .i64 n, .string ⟨s.toArray⟩, .slice a1 l1 e1, .slice a2 l2 e2])), (fun v _ => v = (.string ⟨rv.toArray⟩)), (fun v _ => v = (.string (⟨nm.toArray⟩ ++ ⟨#[58, 32]⟩ ++ ⟨rv.toArray⟩)))] rfl ⟨?_, ?_, ?_, ?_, ?_, ?_, ?_, trivial⟩ _ rfl ⟨?_, ?_, ?_, ?_, ?_, ?_, ?_, trivial⟩ ?_
 iterate 7 exact Stable.is _ _
 ·intro x wx ox hN TT HTT; unfold StepTo; simp only [putAll, Act.put, zA, zB, zC]; clear hN
  go_wp2_with fail
  exact ⟨rfl, _, rfl, HTT.out _ _ rfl oR⟩
 ·intro x wx ox hN TT HTT; unfold StepTo; simp only [putAll, Act.put, zA, zB, zC, eI (hN.1 rfl)]; clear hN; obtain ⟨x0, x1, x2, x3, x4, x5, -⟩ := boxN6 (((((Only.refl (fun _ => False) wb).drew).trans ox).block bA (gE HX.out).1 (fun h => h)).trans HX.out)
  go_wp2_with fail
  exact ⟨rfl, _, rfl, HTT.out _ _ rfl oR⟩
 ·intro x wx ox hN TT HTT; unfold StepTo; simp only [putAll, Act.put, zA, zB, zC, eI (hN.1 rfl)]; clear hN
  go_wp2_with fail
  exact ⟨rfl, _, rfl, HTT.out _ _ rfl oR⟩
 ·intro x wx ox hN TT HTT; unfold StepTo; simp only [putAll, Act.put, zA, zB, zC]; clear hN
  go_wp2_with fail
  exact ⟨rfl, _, rfl, HTT.out _ _ rfl oR⟩
 ·intro x wx ox hN TT HTT; unfold StepTo; simp only [putAll, Act.put, zA, zB, zC, eI (hN.1 rfl)]; clear hN; obtain ⟨x0, x1, x2, x3, x4, x5, -⟩ := boxN6 (((((Only.refl (fun _ => False) wb).drew).trans ox).block bA (gE HX.out).1 (fun h => h)).trans HX.out)
  go_wp2_with fail
  exact ⟨rfl, _, rfl, HTT.out _ _ rfl oR⟩
 ·intro x wx ox hN TT HTT; unfold StepTo; simp only [putAll, Act.put, zA, zB, zC, eI (hN.1 rfl)]; clear hN; have J := hid (HREC.out wx ((HOB.out.drew).trans ox))
  go_wp2_with fail
  refine J.out.mono ?_
  rintro e w6 ⟨rfl, o6⟩; have O6 := hid o6; clear o6
  go_wp2_with fail
  exact ⟨rfl, _, rfl, HTT.out _ _ rfl (O6.out)⟩
 ·intro x wx ox hN TT HTT; unfold StepTo; simp only [putAll, Act.put, zA, zB, zC, eI (hN.1 rfl), eI (hN.2.1 rfl)]; clear hN
  go_wp2_with fail
  exact ⟨rfl, _, rfl, HTT.out _ _ rfl oR⟩
 intro xz wxz oxz hN; simp only [putAll, Act.put, zA, zB, zC, eI hN.1, eI hN.2.1, eI hN.2.2.1, eI hN.2.2.2.1, eI hN.2.2.2.2.1, eI hN.2.2.2.2.2.1, eI hN.2.2.2.2.2.2.1]; clear hN; have HO9 := hid ((HOB.out.drew).trans oxz); clear oxz
 go_wp2_with fail
 go_ret
 rw [← HRR.out, ← cat_list, ← cat_list]; exact ⟨rfl, HO9.out⟩
set_option maxRecDepth 100000 in
set_option maxHeartbeats 16000000 in
theorem ppA_any (gs : List AR) (hw : ∀ a ∈ gs, WellQ a.v) (G : Nat → Prop) (w : World) (v : Value) (h : CellAt w G (.row 6 (gs.map argC)) v) (ht : Tab w) (hl : (ren (argsI gs)).length ≤ 1000000000000) :
  Calls Tryz.prog 60 #[v] w (fun e w' => e = .returned (.string ⟨(ren (argsI gs)).toArray⟩) ∧ Only (fun _ => False) w w') := by
 obtain ⟨a, c, rfl, k1, k2, k3⟩ := rows_at h; obtain ⟨L, hL⟩ := eX (gs.length)
 by_cases h0 : gs = []
 ·subst h0; have e : ren (argsI []) = [] := rfl; rw [e]; clear hw h ht hl k3 hL; simp only [List.length_nil] at k1 ⊢
  go_enter Tryz.func60, Tryz.ntmps60
  go_wp2_with fail
  go_ret
  exact ⟨rfl, oR⟩
 ·have hLp : 0 < L := by rw [← hL]; exact List.length_pos_iff.2 h0
  have he : ren (argsI gs) = [40] ++ Lib.join (gs.map fun a => ren (argI a)) [44, 32] ++ [41] := by
   unfold argsI parI; rw [if_neg (by simpa using h0), ren_cons, ren_app, sep_join, List.map_map]; rfl
  rw [he] at hl ⊢; have hjl : (Lib.join (gs.map fun a => ren (argI a)) [44, 32]).length ≤ 1000000000000 := by simp at hl; omega
  have J := pjoinA_any gs (fun a => ren (argI a)) G w (.slice a gs.length c) [44, 32] (by decide) h (fun i hi wx cs ox hc => by
   have hpl := sep_part gapI (gs.map argI) i (by rw [List.length_map]; exact hi); rw [sep_join, List.map_map] at hpl; have e : (gs.map argI)[i]'(by rw [List.length_map]; exact hi) = argI gs[i] := by simp
   rw [e] at hpl
   exact ppA1_any gs[i] (hw _ (List.getElem_mem hi)) G wx cs hc (ht.still ox) (Nat.le_trans hpl hjl)) hjl
  obtain ⟨jn, hjn⟩ := eX (Lib.join (gs.map fun a => ren (argI a)) [44, 32]); rw [hjn] at J hjl ⊢; rw [hL] at J k1 ⊢; have J := hid J; have t1 : ((L : Int) == 0) = false := by simp; omega
  obtain ⟨R, hR⟩ : ∃ x, [40] ++ jn ++ [41] = x := ⟨_, rfl⟩; rw [hR]; have HRR := hid hR; clear hR; clear hw h ht hl k3 he hjn hL h0
  go_enter Tryz.func60, Tryz.ntmps60
  go_wp2_with fail
  refine J.out.mono ?_
  rintro e w2 ⟨rfl, o2⟩; have HO2 := hid o2; clear o2
  go_wp2_with fail
  go_ret
  rw [← HRR.out, ← cat_list, ← cat_list]; exact ⟨rfl, HO2.out⟩
set_option maxRecDepth 100000 in
set_option maxHeartbeats 8000000 in
theorem sameT_nm (s : List UInt8) (b : Bool) (G G' : Nat → Prop) (w : World) (cs ds : List Value) (h : CellsAt w G (trC (.nm s b)) cs) (h' : CellsAt w G' (trC (.nm s b)) ds) :
  Calls Tryz.prog 24 #[.agg cs.toArray, .agg ds.toArray] w (fun e w' => e = .returned (.bool true) ∧ Only (fun _ => False) w w') := by
 obtain ⟨x, y, z, rfl, h1, h2, h3⟩ := cells3 (by rw [trC] at h; exact h); obtain ⟨x', y', z', rfl, h1', h2', h3'⟩ := cells3 (by rw [trC] at h'; exact h'); have e1 := lit_eq h1; have e3 := lit_eq h3; have e1' := lit_eq h1'; have e3' := lit_eq h3'; obtain ⟨a, c, e2⟩ := row_form h2; obtain ⟨a', c', e2'⟩ := row_form h2'; subst e1; subst e2; subst e3; subst e1'; subst e2'; subst e3'; clear h h' h1 h2 h3 h1' h2' h3'; simp only [List.length_nil]; obtain ⟨wb, hwb⟩ := eX ((w.alloc (.cells #[.string ⟨s.toArray⟩, .slice a 0 c, .bool b] 41)).alloc (.cells #[.string ⟨s.toArray⟩, .slice a' 0 c', .bool b] 41)); have ob : Only (fun _ => False) w wb := by rw [← hwb]; exact ((Only.refl _ w).alloc _).alloc _
 obtain ⟨bA, hbA⟩ := eX (w.heap.size); obtain ⟨bB, hbB⟩ := eX (bA + 1); have hx1 : wb.heap[bA]? = some (.cells #[.string ⟨s.toArray⟩, .slice a 0 c, .bool b] 41 (0, 0)) := by rw [← hwb, ← hbA]; exact heap_old (heap_new w _) _
 have hx2 : wb.heap[bB]? = some (.cells #[.string ⟨s.toArray⟩, .slice a' 0 c', .bool b] 41 (0, 0)) := by
  rw [← hwb, ← hbB, ← hbA]; have := heap_new (w.alloc (.cells #[.string ⟨s.toArray⟩, .slice a 0 c, .bool b] 41)) (.cells #[.string ⟨s.toArray⟩, .slice a' 0 c', .bool b] 41); rw [World.size_alloc] at this; exact this
 obtain ⟨c0, c1, c2, -⟩ := boxN3 hx1; obtain ⟨d0, d1, d2, -⟩ := boxN3 hx2; have HOB := hid ob; have HWB := hid hwb; have HBA := hid hbA; have HBB := hid hbB; have HX := hid (fun (wx : World) (ox : Only (fun _ => False) wb.drew wx) => have o := (Only.refl _ wb).drew.trans ox; And.intro (keepc o c1) (keepc o d1)); clear hx1 hx2 ob hwb hbA hbB
 go_enter Tryz.func24, Tryz.ntmps24
 go_upto_region 1 with (fail)
 rw [HWB.out, HBA.out, HBB.out]
 go_upto_region 3 with (fail)
 clear c0 c1 c2 d0 d1 d2; refine wp_region_steps 15 (by kernel_rfl) rfl (by kernel_rfl) [some 26, some 27, some 28, some 29, some 30, some 31, some 32, some 33, some 34, some 35, some 36, some 37, some 38, some 39, some 40] rfl rfl (fun _ => False) [(fun v _ => v = (.pointer (some ⟨bA, 1, none⟩))), (fun v _ => v = (.slice a 0 c)), (fun v _ => v = (.int .i64 0)), (fun v _ => v = (.bool true)), (fun v _ => v = (.bool true)), (fun v _ => v = undef), (fun v _ => v = undef), (fun v _ => v = undef), (fun v _ => v = undef), (fun v _ => v = undef), (fun v _ => v = undef), (fun v _ => v = undef), (fun v _ => v = undef), (fun v _ => v = undef), (fun v _ => v = (.bool true))] rfl ⟨?_, ?_, ?_, ?_, ?_, ?_, ?_, ?_, ?_, ?_, ?_, ?_, ?_, ?_, ?_, trivial⟩ _ rfl ⟨?_, ?_, ?_, ?_, ?_, ?_, ?_, ?_, ?_, ?_, ?_, ?_, ?_, ?_, ?_, trivial⟩ ?_
 iterate 15 exact Stable.is _ _
 ·intro x wx ox hN TT HTT; unfold StepTo; simp only [putAll, Act.put, zA, zB, zC]; clear hN
  go_wp2_with fail
  exact ⟨rfl, _, rfl, HTT.out _ _ rfl oR⟩
 ·intro x wx ox hN TT HTT; unfold StepTo; simp only [putAll, Act.put, zA, zB, zC, eI (hN.1 rfl)]; clear hN; obtain ⟨m1, m2⟩ := HX.out wx ox
  go_wp2_with fail
  exact ⟨rfl, _, rfl, HTT.out _ _ rfl oR⟩
 ·intro x wx ox hN TT HTT; unfold StepTo; simp only [putAll, Act.put, zA, zB, zC, eI (hN.1 rfl)]; clear hN
  go_wp2_with fail
  exact ⟨rfl, _, rfl, HTT.out _ _ rfl oR⟩
 ·intro x wx ox hN TT HTT; unfold StepTo; simp only [putAll, Act.put, zA, zB, zC, eI (hN.1 rfl)]; clear hN
  go_wp2_with fail
  exact ⟨rfl, _, rfl, HTT.out _ _ rfl oR⟩
 ·intro x wx ox hN TT HTT; unfold StepTo; simp only [putAll, Act.put, zA, zB, zC, eI (hN.1 rfl)]; clear hN
  go_wp2_with fail
  exact ⟨rfl, _, rfl, HTT.out _ _ rfl oR⟩
 ·intro x wx ox hN TT HTT; unfold StepTo; simp only [putAll, Act.put, zA, zB, zC, eI (hN.1 rfl)]; clear hN
  go_wp2_with fail
  exact ⟨rfl, _, rfl, HTT.out _ _ rfl oR⟩
 ·intro x wx ox hN TT HTT; unfold StepTo; simp only [putAll, Act.put, zA, zB, zC, eI (hN.1 rfl), eI (hN.2.1 rfl)]; clear hN
  go_wp2_with fail
  exact ⟨rfl, _, rfl, HTT.out _ _ rfl oR⟩
 ·intro x wx ox hN TT HTT; unfold StepTo; simp only [putAll, Act.put, zA, zB, zC, eI (hN.1 rfl), eI (hN.2.1 rfl)]; clear hN
  go_wp2_with fail
  exact ⟨rfl, _, rfl, HTT.out _ _ rfl oR⟩
 ·intro x wx ox hN TT HTT; unfold StepTo; simp only [putAll, Act.put, zA, zB, zC, eI (hN.1 rfl), eI (hN.2.1 rfl)]; clear hN
  go_wp2_with fail
  exact ⟨rfl, _, rfl, HTT.out _ _ rfl oR⟩
 ·intro x wx ox hN TT HTT; unfold StepTo; simp only [putAll, Act.put, zA, zB, zC, eI (hN.1 rfl)]; clear hN
  go_wp2_with fail
  exact ⟨rfl, _, rfl, HTT.out _ _ rfl oR⟩
 ·intro x wx ox hN TT HTT; unfold StepTo; simp only [putAll, Act.put, zA, zB, zC, eI (hN.1 rfl), eI (hN.2.1 rfl)]; clear hN
  go_wp2_with fail
  exact ⟨rfl, _, rfl, HTT.out _ _ rfl oR⟩
 ·intro x wx ox hN TT HTT; unfold StepTo; simp only [putAll, Act.put, zA, zB, zC, eI (hN.1 rfl), eI (hN.2.1 rfl)]; clear hN
  go_wp2_with fail
  exact ⟨rfl, _, rfl, HTT.out _ _ rfl oR⟩
 ·intro x wx ox hN TT HTT; unfold StepTo; simp only [putAll, Act.put, zA, zB, zC, eI (hN.1 rfl), eI (hN.2.1 rfl)]; clear hN
  go_wp2_with fail
  exact ⟨rfl, _, rfl, HTT.out _ _ rfl oR⟩
 ·intro x wx ox hN TT HTT; unfold StepTo; simp only [putAll, Act.put, zA, zB, zC, eI (hN.1 rfl), eI (hN.2.1 rfl), eI (hN.2.2.1 rfl)]; clear hN
  go_wp2_with fail
  exact ⟨rfl, _, rfl, HTT.out _ _ rfl oR⟩
 ·intro x wx ox hN TT HTT; unfold StepTo; simp only [putAll, Act.put, zA, zB, zC, eI (hN.1 rfl), eI (hN.2.1 rfl)]; clear hN
  go_wp2_with fail
  exact ⟨rfl, _, rfl, HTT.out _ _ rfl oR⟩
 intro xz wxz oxz hN; simp only [putAll, Act.put, zA, zB, zC, eI hN.1, eI hN.2.1, eI hN.2.2.1, eI hN.2.2.2.1, eI hN.2.2.2.2.1, eI hN.2.2.2.2.2.1, eI hN.2.2.2.2.2.2.1, eI hN.2.2.2.2.2.2.2.1, eI hN.2.2.2.2.2.2.2.2.1, eI hN.2.2.2.2.2.2.2.2.2.1, eI hN.2.2.2.2.2.2.2.2.2.2.1, eI hN.2.2.2.2.2.2.2.2.2.2.2.1, eI hN.2.2.2.2.2.2.2.2.2.2.2.2.1, eI hN.2.2.2.2.2.2.2.2.2.2.2.2.2.1, eI hN.2.2.2.2.2.2.2.2.2.2.2.2.2.2.1]; clear hN; have OZ := hid (HOB.out.trans ((Only.refl _ wb).drew.trans oxz)); clear oxz
 go_wp2_with fail
 go_ret
 exact ⟨rfl, OZ.out⟩
theorem cells3_of {w : World} {g p : Nat} {x y z : Value} (h : ∀ j q, ([x, y, z] : List Value)[j]? = some q → w.cell? ⟨g, p + j, none⟩ = some q) : w.cell? ⟨g, p, none⟩ = some x ∧ w.cell? ⟨g, p + 1, none⟩ = some y ∧ w.cell? ⟨g, p + 2, none⟩ = some z := ⟨h 0 x rfl, h 1 y rfl, h 2 z rfl⟩
set_option maxRecDepth 100000 in
set_option maxHeartbeats 8000000 in
theorem sameT_ls (t : TR) (IH : ∀ (G G' : Nat → Prop) (w : World) (cs ds : List Value), CellsAt w G (trC t) cs → CellsAt w G' (trC t) ds →
  Calls Tryz.prog 24 #[.agg cs.toArray, .agg ds.toArray] w (fun e w' => e = .returned (.bool true) ∧ Only (fun _ => False) w w')) (b : Bool) (G G' : Nat → Prop) (w : World) (cs ds : List Value) (h : CellsAt w G (trC (.ls t b)) cs) (h' : CellsAt w G' (trC (.ls t b)) ds) :
  Calls Tryz.prog 24 #[.agg cs.toArray, .agg ds.toArray] w (fun e w' => e = .returned (.bool true) ∧ Only (fun _ => False) w w') := by
 obtain ⟨v, rfl, hv⟩ := tr_ls_cells h; obtain ⟨v', rfl, hv'⟩ := tr_ls_cells h'; have hv : CellAt w G (.row 3 ([t].map trC)) v := hv; have hv' : CellAt w G' (.row 3 ([t].map trC)) v' := hv'; obtain ⟨a, c, rfl, k1, k2, k3⟩ := rows_at hv; obtain ⟨a', c', rfl, k1', k2', k3'⟩ := rows_at hv'; obtain ⟨g, o, xs, rfl, -, q1, q2⟩ := k3 0 (by simp); obtain ⟨g', o', xs', rfl, -, q1', q2'⟩ := k3' 0 (by simp); have q2 : CellsAt w G (trC t) xs := q2; have q2' : CellsAt w G' (trC t) xs' := q2'; have hrec := fun (wx : World) (ox : Only (fun _ => False) w wx) => IH G G' wx _ _ (CellsAt.only ox (fun _ _ h => h) _ _ q2) (CellsAt.only ox (fun _ _ h => h) _ _ q2')
 obtain ⟨s1, a1, l1, c1, b1, rfl⟩ := trC_form2 q2; obtain ⟨s2, a2, l2, c2, b2, rfl⟩ := trC_form2 q2'; rw [Nat.zero_mul, Nat.add_zero] at q1 q1'; obtain ⟨e0, e1, e2⟩ := cells3_of q1; obtain ⟨f0, f1, f2⟩ := cells3_of q1'; simp only [List.length_cons, List.length_nil, Nat.zero_add] at k1 k1' ⊢; obtain ⟨wb, hwb⟩ := eX ((w.alloc (.cells #[.string ⟨#[]⟩, .slice (some ⟨g, o, none⟩) 1 c, .bool b] 41)).alloc (.cells #[.string ⟨#[]⟩, .slice (some ⟨g', o', none⟩) 1 c', .bool b] 41)); have ob : Only (fun _ => False) w wb := by rw [← hwb]; exact ((Only.refl _ w).alloc _).alloc _
 obtain ⟨bA, hbA⟩ := eX (w.heap.size); obtain ⟨bB, hbB⟩ := eX (bA + 1); have hx1 : wb.heap[bA]? = some (.cells #[.string ⟨#[]⟩, .slice (some ⟨g, o, none⟩) 1 c, .bool b] 41 (0, 0)) := by rw [← hwb, ← hbA]; exact heap_old (heap_new w _) _
 have hx2 : wb.heap[bB]? = some (.cells #[.string ⟨#[]⟩, .slice (some ⟨g', o', none⟩) 1 c', .bool b] 41 (0, 0)) := by
  rw [← hwb, ← hbB, ← hbA]; have := heap_new (w.alloc (.cells #[.string ⟨#[]⟩, .slice (some ⟨g, o, none⟩) 1 c, .bool b] 41)) (.cells #[.string ⟨#[]⟩, .slice (some ⟨g', o', none⟩) 1 c', .bool b] 41); rw [World.size_alloc] at this; exact this
 obtain ⟨c0, c1, c2, -⟩ := boxN3 hx1; obtain ⟨d0, d1, d2, -⟩ := boxN3 hx2; have HOB := hid ob; have HWB := hid hwb; have HBA := hid hbA; have HBB := hid hbB; have HX := hid (fun (wx : World) (ox : Only (fun _ => False) wb.drew wx) => have o := (Only.refl _ wb).drew.trans ox; have ow := ob.trans o; And.intro (keepc o c1) (And.intro (keepc o d1) (And.intro (keepc ow e0) (And.intro (keepc ow e1) (And.intro (keepc ow e2) (And.intro (keepc ow f0) (And.intro (keepc ow f1) (keepc ow f2)))))))); have HREC := hid (fun (wx : World) (ox : Only (fun _ => False) wb.drew wx) => hrec wx (ob.trans ((Only.refl _ wb).drew.trans ox))); clear hx1 hx2 ob hwb hbA hbB hrec e0 e1 e2 f0 f1 f2 q1 q1' q2 q2' k3 k3' hv hv' h h'
 go_enter Tryz.func24, Tryz.ntmps24
 go_upto_region 1 with (fail)
 rw [HWB.out, HBA.out, HBB.out]
 go_upto_region 3 with (fail)
 clear c0 c1 c2 d0 d1 d2; refine wp_region_steps 15 (by kernel_rfl) rfl (by kernel_rfl) [some 26, some 27, some 28, some 29, some 30, some 31, some 32, some 33, some 34, some 35, some 36, some 37, some 38, some 39, some 40] rfl rfl (fun _ => False) [(fun v _ => v = (.pointer (some ⟨bA, 1, none⟩))), (fun v _ => v = (.slice (some ⟨g, o, none⟩) 1 c)), (fun v _ => v = (.int .i64 1)), (fun v _ => v = (.bool false)), (fun v _ => v = (.bool false)), (fun v _ => v = (.pointer (some ⟨bA, 1, none⟩))), (fun v _ => v = (.slice (some ⟨g, o, none⟩) 1 c)), (fun v _ => v = (.pointer (some ⟨g, o, none⟩))), (fun v _ => v = (.agg #[.string ⟨s1.toArray⟩, .slice a1 l1 c1, .bool b1])), (fun v _ => v = (.pointer (some ⟨bB, 1, none⟩))), (fun v _ => v = (.slice (some ⟨g', o', none⟩) 1 c')), (fun v _ => v = (.pointer (some ⟨g', o', none⟩))), (fun v _ => v = (.agg #[.string ⟨s2.toArray⟩, .slice a2 l2 c2, .bool b2])), (fun v _ => v = (.bool true)), (fun v _ => v = (.bool true))] rfl ⟨?_, ?_, ?_, ?_, ?_, ?_, ?_, ?_, ?_, ?_, ?_, ?_, ?_, ?_, ?_, trivial⟩ _ rfl ⟨?_, ?_, ?_, ?_, ?_, ?_, ?_, ?_, ?_, ?_, ?_, ?_, ?_, ?_, ?_, trivial⟩ ?_
 iterate 15 exact Stable.is _ _
 ·intro x wx ox hN TT HTT; unfold StepTo; simp only [putAll, Act.put, zA, zB, zC]; clear hN
  go_wp2_with fail
  exact ⟨rfl, _, rfl, HTT.out _ _ rfl oR⟩
 ·intro x wx ox hN TT HTT; unfold StepTo; simp only [putAll, Act.put, zA, zB, zC, eI (hN.1 rfl)]; clear hN; obtain ⟨m1, m2, m3, m4, m5, m6, m7, m8⟩ := HX.out wx ox
  go_wp2_with fail
  exact ⟨rfl, _, rfl, HTT.out _ _ rfl oR⟩
 ·intro x wx ox hN TT HTT; unfold StepTo; simp only [putAll, Act.put, zA, zB, zC, eI (hN.1 rfl)]; clear hN
  go_wp2_with fail
  exact ⟨rfl, _, rfl, HTT.out _ _ rfl oR⟩
 ·intro x wx ox hN TT HTT; unfold StepTo; simp only [putAll, Act.put, zA, zB, zC, eI (hN.1 rfl)]; clear hN
  go_wp2_with fail
  exact ⟨rfl, _, rfl, HTT.out _ _ rfl oR⟩
 ·intro x wx ox hN TT HTT; unfold StepTo; simp only [putAll, Act.put, zA, zB, zC, eI (hN.1 rfl)]; clear hN
  go_wp2_with fail
  exact ⟨rfl, _, rfl, HTT.out _ _ rfl oR⟩
 ·intro x wx ox hN TT HTT; unfold StepTo; simp only [putAll, Act.put, zA, zB, zC, eI (hN.1 rfl)]; clear hN
  go_wp2_with fail
  exact ⟨rfl, _, rfl, HTT.out _ _ rfl oR⟩
 ·intro x wx ox hN TT HTT; unfold StepTo; simp only [putAll, Act.put, zA, zB, zC, eI (hN.1 rfl), eI (hN.2.1 rfl)]; clear hN; obtain ⟨m1, m2, m3, m4, m5, m6, m7, m8⟩ := HX.out wx ox
  go_wp2_with fail
  exact ⟨rfl, _, rfl, HTT.out _ _ rfl oR⟩
 ·intro x wx ox hN TT HTT; unfold StepTo; simp only [putAll, Act.put, zA, zB, zC, eI (hN.1 rfl), eI (hN.2.1 rfl)]; clear hN
  go_wp2_with fail
  exact ⟨rfl, _, rfl, HTT.out _ _ rfl oR⟩
 ·intro x wx ox hN TT HTT; unfold StepTo; simp only [putAll, Act.put, zA, zB, zC, eI (hN.1 rfl), eI (hN.2.1 rfl)]; clear hN; obtain ⟨m1, m2, m3, m4, m5, m6, m7, m8⟩ := HX.out wx ox
  go_wp2_with fail
  exact ⟨rfl, _, rfl, HTT.out _ _ rfl oR⟩
 ·intro x wx ox hN TT HTT; unfold StepTo; simp only [putAll, Act.put, zA, zB, zC, eI (hN.1 rfl)]; clear hN
  go_wp2_with fail
  exact ⟨rfl, _, rfl, HTT.out _ _ rfl oR⟩
 ·intro x wx ox hN TT HTT; unfold StepTo; simp only [putAll, Act.put, zA, zB, zC, eI (hN.1 rfl), eI (hN.2.1 rfl)]; clear hN; obtain ⟨m1, m2, m3, m4, m5, m6, m7, m8⟩ := HX.out wx ox
  go_wp2_with fail
  exact ⟨rfl, _, rfl, HTT.out _ _ rfl oR⟩
 ·intro x wx ox hN TT HTT; unfold StepTo; simp only [putAll, Act.put, zA, zB, zC, eI (hN.1 rfl), eI (hN.2.1 rfl)]; clear hN
  go_wp2_with fail
  exact ⟨rfl, _, rfl, HTT.out _ _ rfl oR⟩
 ·intro x wx ox hN TT HTT; unfold StepTo; simp only [putAll, Act.put, zA, zB, zC, eI (hN.1 rfl), eI (hN.2.1 rfl)]; clear hN; obtain ⟨m1, m2, m3, m4, m5, m6, m7, m8⟩ := HX.out wx ox
  go_wp2_with fail
  exact ⟨rfl, _, rfl, HTT.out _ _ rfl oR⟩
 ·intro x wx ox hN TT HTT; unfold StepTo; simp only [putAll, Act.put, zA, zB, zC, eI (hN.1 rfl), eI (hN.2.1 rfl), eI (hN.2.2.1 rfl)]; clear hN; have ht := HREC.out wx ox; have HT := hid ht; clear ht
  go_wp2_with fail
  refine HT.out.mono ?_
  rintro e w6 ⟨rfl, o6⟩; have O6 := hid o6; clear o6
  go_wp2_with fail
  exact ⟨rfl, _, rfl, HTT.out _ _ rfl (O6.out)⟩
 ·intro x wx ox hN TT HTT; unfold StepTo; simp only [putAll, Act.put, zA, zB, zC, eI (hN.1 rfl), eI (hN.2.1 rfl)]; clear hN
  go_wp2_with fail
  exact ⟨rfl, _, rfl, HTT.out _ _ rfl oR⟩
 intro xz wxz oxz hN; simp only [putAll, Act.put, zA, zB, zC, eI hN.1, eI hN.2.1, eI hN.2.2.1, eI hN.2.2.2.1, eI hN.2.2.2.2.1, eI hN.2.2.2.2.2.1, eI hN.2.2.2.2.2.2.1, eI hN.2.2.2.2.2.2.2.1, eI hN.2.2.2.2.2.2.2.2.1, eI hN.2.2.2.2.2.2.2.2.2.1, eI hN.2.2.2.2.2.2.2.2.2.2.1, eI hN.2.2.2.2.2.2.2.2.2.2.2.1, eI hN.2.2.2.2.2.2.2.2.2.2.2.2.1, eI hN.2.2.2.2.2.2.2.2.2.2.2.2.2.1, eI hN.2.2.2.2.2.2.2.2.2.2.2.2.2.2.1]; clear hN; have OZ := hid (HOB.out.trans ((Only.refl _ wb).drew.trans oxz)); clear oxz
 go_wp2_with fail
 go_ret
 exact ⟨rfl, OZ.out⟩
theorem sameT_true : ∀ (t : TR) (G G' : Nat → Prop) (w : World) (cs ds : List Value), CellsAt w G (trC t) cs → CellsAt w G' (trC t) ds →
  Calls Tryz.prog 24 #[.agg cs.toArray, .agg ds.toArray] w (fun e w' => e = .returned (.bool true) ∧ Only (fun _ => False) w w')
 | .nm s b => sameT_nm s b
 | .ls t b => sameT_ls t (sameT_true t) b
theorem cells6_of {w : World} {g p : Nat} {x0 x1 x2 x3 x4 x5 : Value} (h : ∀ j q, ([x0, x1, x2, x3, x4, x5] : List Value)[j]? = some q → w.cell? ⟨g, p + j, none⟩ = some q) : w.cell? ⟨g, p, none⟩ = some x0 ∧ w.cell? ⟨g, p + 1, none⟩ = some x1 ∧ w.cell? ⟨g, p + 2, none⟩ = some x2 ∧ w.cell? ⟨g, p + 3, none⟩ = some x3 ∧ w.cell? ⟨g, p + 4, none⟩ = some x4 ∧ w.cell? ⟨g, p + 5, none⟩ = some x5 :=
 ⟨h 0 _ rfl, h 1 _ rfl, h 2 _ rfl, h 3 _ rfl, h 4 _ rfl, h 5 _ rfl⟩
set_option maxRecDepth 100000 in
set_option maxHeartbeats 8000000 in
theorem sameArgs_true (gs : List AR) (G G' : Nat → Prop) (w : World) (v u : Value) (h : CellAt w G (.row 6 (gs.map argC)) v) (h' : CellAt w G' (.row 6 (gs.map argC)) u) :
  Calls Tryz.prog 78 #[v, u] w (fun e w' => e = .returned (.bool true) ∧ Only (fun _ => False) w w') := by
 obtain ⟨a, c, rfl, k1, k2, k3⟩ := rows_at h; obtain ⟨a', c', rfl, k1', k2', k3'⟩ := rows_at h'; obtain ⟨L, hL⟩ := eX (gs.length); rw [hL] at k1 k1' ⊢; have HL := hid hL; have HK := hid k3; have HK' := hid k3'; clear hL k3 k3' h h'
 go_enter Tryz.func78, Tryz.ntmps78
 go_wp2_with fail
 go_loopw [5] (fun v wr => ∃ i : Nat, v = .int .i64 (i : Int) ∧ i ≤ L ∧ Hid (Only (fun _ => False) w wr)) (fun v _ => L - (intOf v).toNat)
 case atStart => exact ⟨0, by simp, by omega, hid oR⟩
 case round =>
  obtain ⟨i, rfl, hi, HO⟩ := hrel
  by_cases hlt : i < L
  ·have t3 : decide ((i : Int) < (L : Int)) = true := by simpa using hlt
   have hi0 : (0 : Int) ≤ (i : Int) := by omega
   have hi1 : (i : Int) < (L : Int) := by omega
   obtain ⟨g, o, xs, rfl, -, q1, q2⟩ := HK.out i (by rw [HL.out]; exact hlt); obtain ⟨g', o', xs', rfl, -, q1', q2'⟩ := HK'.out i (by rw [HL.out]; exact hlt); obtain ⟨us, rfl, hu⟩ := arg_cells q2; obtain ⟨us', rfl, hu'⟩ := arg_cells q2'; have hrec := fun (wx : World) (ox : Only (fun _ => False) w wx) => sameV_true _ (CellsAt.only ox (fun _ _ h => h) _ _ hu) (CellsAt.only ox (fun _ _ h => h) _ _ hu')
   obtain ⟨vk, vn, vs, va, vl, vc, va2, vl2, vc2, rfl⟩ := valC_form2 hu; obtain ⟨uk, un, us, ua, ul, uc, ua2, ul2, uc2, rfl⟩ := valC_form2 hu'; obtain ⟨e0, e1, e2, e3, e4, e5⟩ := cells6_of q1; obtain ⟨f0, f1, f2, f3, f4, f5⟩ := cells6_of q1'
   generalize (gs[i]'(by rw [HL.out]; exact hlt)).name = nm at *
   have HX := hid (fun (wx : World) (ox : Only (fun _ => False) wr.drew wx) => have ow := HO.out.trans ((Only.refl _ wr).drew.trans ox); And.intro (keepc ow e0) (And.intro (keepc ow e1) (And.intro (keepc ow e2) (And.intro (keepc ow e3) (And.intro (keepc ow e4) (And.intro (keepc ow e5) (And.intro (keepc ow f0) (And.intro (keepc ow f1) (And.intro (keepc ow f2) (And.intro (keepc ow f3) (And.intro (keepc ow f4) (keepc ow f5)))))))))))); have HREC := hid (fun (wx : World) (ox : Only (fun _ => False) wr.drew wx) => hrec wx (HO.out.trans ((Only.refl _ wr).drew.trans ox))); clear hrec q1 q1' q2 q2' hu hu' e0 e1 e2 e3 e4 e5 f0 f1 f2 f3 f4 f5
   go_upto_region 6 with (fail)
   refine wp_region_steps 24 (by kernel_rfl) rfl (by kernel_rfl) [some 17, some 18, some 19, some 20, some 21, some 22, some 23, some 24, some 25, some 26, some 27, some 28, some 29, some 30, some 31, some 32, some 33, some 34, some 35, some 36, some 37, some 38, some 39, some 40] rfl rfl (fun _ => False) [(fun v _ => v = (.slice (some ⟨g, o, none⟩) L c)), (fun v _ => v = (.int .i64 (i : Int))), (fun v _ => v = (.pointer (some ⟨g, o + i * 6, none⟩))), (fun v _ => v = (.pointer (some ⟨g, o + i * 6, none⟩))), (fun v _ => v = (.string ⟨nm.toArray⟩)), (fun v _ => v = (.slice (some ⟨g', o', none⟩) L c')), (fun v _ => v = (.int .i64 (i : Int))), (fun v _ => v = (.pointer (some ⟨g', o' + i * 6, none⟩))), (fun v _ => v = (.pointer (some ⟨g', o' + i * 6, none⟩))), (fun v _ => v = (.string ⟨nm.toArray⟩)), (fun v _ => v = (.bool false)), (fun v _ => v = (.bool false)), (fun v _ => v = (.slice (some ⟨g, o, none⟩) L c)), (fun v _ => v = (.int .i64 (i : Int))), (fun v _ => v = (.pointer (some ⟨g, o + i * 6, none⟩))), (fun v _ => v = (.pointer (some ⟨g, o + i * 6 + 1, none⟩))), (fun v _ => v = (.agg #[.int .u8 (vk : Int), .int .i64 vn, .string ⟨vs.toArray⟩, .slice va vl vc, .slice va2 vl2 vc2])), (fun v _ => v = (.slice (some ⟨g', o', none⟩) L c')), (fun v _ => v = (.int .i64 (i : Int))), (fun v _ => v = (.pointer (some ⟨g', o' + i * 6, none⟩))), (fun v _ => v = (.pointer (some ⟨g', o' + i * 6 + 1, none⟩))), (fun v _ => v = (.agg #[.int .u8 (uk : Int), .int .i64 un, .string ⟨us.toArray⟩, .slice ua ul uc, .slice ua2 ul2 uc2])), (fun v _ => v = (.bool true)), (fun v _ => v = (.bool false))] rfl ⟨?_, ?_, ?_, ?_, ?_, ?_, ?_, ?_, ?_, ?_, ?_, ?_, ?_, ?_, ?_, ?_, ?_, ?_, ?_, ?_, ?_, ?_, ?_, ?_, trivial⟩ _ rfl ⟨?_, ?_, ?_, ?_, ?_, ?_, ?_, ?_, ?_, ?_, ?_, ?_, ?_, ?_, ?_, ?_, ?_, ?_, ?_, ?_, ?_, ?_, ?_, ?_, trivial⟩ ?_
   iterate 24 exact Stable.is _ _
   ·intro x wx ox hN TT HTT; unfold StepTo; simp only [putAll, Act.put, zA, zB, zC]; clear hN
    go_wp2_with fail
    exact ⟨rfl, _, rfl, HTT.out _ _ rfl oR⟩
   ·intro x wx ox hN TT HTT; unfold StepTo; simp only [putAll, Act.put, zA, zB, zC]; clear hN
    go_wp2_with fail
    exact ⟨rfl, _, rfl, HTT.out _ _ rfl oR⟩
   ·intro x wx ox hN TT HTT; unfold StepTo; simp only [putAll, Act.put, zA, zB, zC, eI (hN.1 rfl), eI (hN.2.1 rfl)]; clear hN
    go_wp2_with fail
    exact ⟨rfl, _, rfl, HTT.out _ _ rfl oR⟩
   ·intro x wx ox hN TT HTT; unfold StepTo; simp only [putAll, Act.put, zA, zB, zC, eI (hN.1 rfl)]; clear hN
    go_wp2_with fail
    exact ⟨rfl, _, rfl, HTT.out _ _ rfl oR⟩
   ·intro x wx ox hN TT HTT; unfold StepTo; simp only [putAll, Act.put, zA, zB, zC, eI (hN.1 rfl)]; clear hN; obtain ⟨m1, m2, m3, m4, m5, m6, n1, n2, n3, n4, n5, n6⟩ := HX.out wx ox
    go_wp2_with fail
    exact ⟨rfl, _, rfl, HTT.out _ _ rfl oR⟩
   ·intro x wx ox hN TT HTT; unfold StepTo; simp only [putAll, Act.put, zA, zB, zC]; clear hN
    go_wp2_with fail
    exact ⟨rfl, _, rfl, HTT.out _ _ rfl oR⟩
   ·intro x wx ox hN TT HTT; unfold StepTo; simp only [putAll, Act.put, zA, zB, zC]; clear hN
    go_wp2_with fail
    exact ⟨rfl, _, rfl, HTT.out _ _ rfl oR⟩
   ·intro x wx ox hN TT HTT; unfold StepTo; simp only [putAll, Act.put, zA, zB, zC, eI (hN.1 rfl), eI (hN.2.1 rfl)]; clear hN
    go_wp2_with fail
    exact ⟨rfl, _, rfl, HTT.out _ _ rfl oR⟩
   ·intro x wx ox hN TT HTT; unfold StepTo; simp only [putAll, Act.put, zA, zB, zC, eI (hN.1 rfl)]; clear hN
    go_wp2_with fail
    exact ⟨rfl, _, rfl, HTT.out _ _ rfl oR⟩
   ·intro x wx ox hN TT HTT; unfold StepTo; simp only [putAll, Act.put, zA, zB, zC, eI (hN.1 rfl)]; clear hN; obtain ⟨m1, m2, m3, m4, m5, m6, n1, n2, n3, n4, n5, n6⟩ := HX.out wx ox
    go_wp2_with fail
    exact ⟨rfl, _, rfl, HTT.out _ _ rfl oR⟩
   ·intro x wx ox hN TT HTT; unfold StepTo; simp only [putAll, Act.put, zA, zB, zC, eI (hN.1 rfl), eI (hN.2.1 rfl)]; clear hN
    go_wp2_with fail
    exact ⟨rfl, _, rfl, HTT.out _ _ rfl oR⟩
   ·intro x wx ox hN TT HTT; unfold StepTo; simp only [putAll, Act.put, zA, zB, zC, eI (hN.1 rfl)]; clear hN
    go_wp2_with fail
    exact ⟨rfl, _, rfl, HTT.out _ _ rfl oR⟩
   ·intro x wx ox hN TT HTT; unfold StepTo; simp only [putAll, Act.put, zA, zB, zC, eI (hN.1 rfl)]; clear hN
    go_wp2_with fail
    exact ⟨rfl, _, rfl, HTT.out _ _ rfl oR⟩
   ·intro x wx ox hN TT HTT; unfold StepTo; simp only [putAll, Act.put, zA, zB, zC, eI (hN.1 rfl)]; clear hN
    go_wp2_with fail
    exact ⟨rfl, _, rfl, HTT.out _ _ rfl oR⟩
   ·intro x wx ox hN TT HTT; unfold StepTo; simp only [putAll, Act.put, zA, zB, zC, eI (hN.1 rfl), eI (hN.2.1 rfl), eI (hN.2.2.1 rfl)]; clear hN
    go_wp2_with fail
    exact ⟨rfl, _, rfl, HTT.out _ _ rfl oR⟩
   ·intro x wx ox hN TT HTT; unfold StepTo; simp only [putAll, Act.put, zA, zB, zC, eI (hN.1 rfl), eI (hN.2.1 rfl)]; clear hN
    go_wp2_with fail
    exact ⟨rfl, _, rfl, HTT.out _ _ rfl oR⟩
   ·intro x wx ox hN TT HTT; unfold StepTo; simp only [putAll, Act.put, zA, zB, zC, eI (hN.1 rfl), eI (hN.2.1 rfl)]; clear hN; obtain ⟨m1, m2, m3, m4, m5, m6, n1, n2, n3, n4, n5, n6⟩ := HX.out wx ox
    go_wp2_with fail
    exact ⟨rfl, _, rfl, HTT.out _ _ rfl oR⟩
   ·intro x wx ox hN TT HTT; unfold StepTo; simp only [putAll, Act.put, zA, zB, zC, eI (hN.1 rfl)]; clear hN
    go_wp2_with fail
    exact ⟨rfl, _, rfl, HTT.out _ _ rfl oR⟩
   ·intro x wx ox hN TT HTT; unfold StepTo; simp only [putAll, Act.put, zA, zB, zC, eI (hN.1 rfl)]; clear hN
    go_wp2_with fail
    exact ⟨rfl, _, rfl, HTT.out _ _ rfl oR⟩
   ·intro x wx ox hN TT HTT; unfold StepTo; simp only [putAll, Act.put, zA, zB, zC, eI (hN.1 rfl), eI (hN.2.1 rfl), eI (hN.2.2.1 rfl)]; clear hN
    go_wp2_with fail
    exact ⟨rfl, _, rfl, HTT.out _ _ rfl oR⟩
   ·intro x wx ox hN TT HTT; unfold StepTo; simp only [putAll, Act.put, zA, zB, zC, eI (hN.1 rfl), eI (hN.2.1 rfl)]; clear hN
    go_wp2_with fail
    exact ⟨rfl, _, rfl, HTT.out _ _ rfl oR⟩
   ·intro x wx ox hN TT HTT; unfold StepTo; simp only [putAll, Act.put, zA, zB, zC, eI (hN.1 rfl), eI (hN.2.1 rfl)]; clear hN; obtain ⟨m1, m2, m3, m4, m5, m6, n1, n2, n3, n4, n5, n6⟩ := HX.out wx ox
    go_wp2_with fail
    exact ⟨rfl, _, rfl, HTT.out _ _ rfl oR⟩
   ·intro x wx ox hN TT HTT; unfold StepTo; simp only [putAll, Act.put, zA, zB, zC, eI (hN.1 rfl), eI (hN.2.1 rfl), eI (hN.2.2.1 rfl)]; clear hN; have ht := HREC.out wx ox; have HT := hid ht; clear ht
    go_wp2_with fail
    refine HT.out.mono ?_
    rintro e w6 ⟨rfl, o6⟩; have O6 := hid o6; clear o6
    go_wp2_with fail
    exact ⟨rfl, _, rfl, HTT.out _ _ rfl (O6.out)⟩
   ·intro x wx ox hN TT HTT; unfold StepTo; simp only [putAll, Act.put, zA, zB, zC, eI (hN.1 rfl), eI (hN.2.1 rfl)]; clear hN
    go_wp2_with fail
    exact ⟨rfl, _, rfl, HTT.out _ _ rfl oR⟩
   intro xz wxz oxz hN; simp only [putAll, Act.put, zA, zB, zC, eI hN.1, eI hN.2.1, eI hN.2.2.1, eI hN.2.2.2.1, eI hN.2.2.2.2.1, eI hN.2.2.2.2.2.1, eI hN.2.2.2.2.2.2.1, eI hN.2.2.2.2.2.2.2.1, eI hN.2.2.2.2.2.2.2.2.1, eI hN.2.2.2.2.2.2.2.2.2.1, eI hN.2.2.2.2.2.2.2.2.2.2.1, eI hN.2.2.2.2.2.2.2.2.2.2.2.1, eI hN.2.2.2.2.2.2.2.2.2.2.2.2.1, eI hN.2.2.2.2.2.2.2.2.2.2.2.2.2.1, eI hN.2.2.2.2.2.2.2.2.2.2.2.2.2.2.1, eI hN.2.2.2.2.2.2.2.2.2.2.2.2.2.2.2.1, eI hN.2.2.2.2.2.2.2.2.2.2.2.2.2.2.2.2.1, eI hN.2.2.2.2.2.2.2.2.2.2.2.2.2.2.2.2.2.1, eI hN.2.2.2.2.2.2.2.2.2.2.2.2.2.2.2.2.2.2.1, eI hN.2.2.2.2.2.2.2.2.2.2.2.2.2.2.2.2.2.2.2.1, eI hN.2.2.2.2.2.2.2.2.2.2.2.2.2.2.2.2.2.2.2.2.1, eI hN.2.2.2.2.2.2.2.2.2.2.2.2.2.2.2.2.2.2.2.2.2.1, eI hN.2.2.2.2.2.2.2.2.2.2.2.2.2.2.2.2.2.2.2.2.2.2.1, eI hN.2.2.2.2.2.2.2.2.2.2.2.2.2.2.2.2.2.2.2.2.2.2.2.1]; clear hN; have OZ := hid (HO.out.trans ((Only.refl _ wr).drew.trans oxz)); clear oxz
   go_wp2_with fail
   go_roundw
   case rel => exact ⟨i + 1, by simp [go_sem], by omega, OZ⟩
   case measure => simp [intOf]; omega
  ·have hke : i = L := by omega
   subst hke; have t3 : decide ((i : Int) < (i : Int)) = false := by simp
   go_wp2_with fail
   go_ret
   exact ⟨rfl, HO.out⟩
end Go.Proofs.YtnkpoddbbdmipaaGreatDoor
