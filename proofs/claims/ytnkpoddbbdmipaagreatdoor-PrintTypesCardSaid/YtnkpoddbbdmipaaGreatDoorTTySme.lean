/- . -/
import Derived.Test.YtnkpoddbbdmipaaGreatDoorTTyPjn
import Derived.Test.YtnkpoddbbdmipaaGreatDoorTTySdf
namespace Go.Proofs.YtnkpoddbbdmipaaGreatDoor
open Go Go.RowKit
open Go.Lib (hid)
set_option linter.unusedVariables false
set_option linter.unusedSimpArgs false
set_option maxRecDepth 100000 in
set_option maxHeartbeats 8000000 in
theorem sameT_nm (s : List UInt8) (b : Bool) (G G' : Nat → Prop) (w : World) (cs ds : List Value) (h : CellsAt w G (trC (.nm s b)) cs) (h' : CellsAt w G' (trC (.nm s b)) ds) :
  Calls Tryz.prog 24 #[.agg cs.toArray, .agg ds.toArray] w (fun e w' => e = .returned (.bool true) ∧ Only (fun _ => False) w w') := by
 obtain ⟨x, y, z, rfl, h1, h2, h3⟩ := cells3 (by rw [trC] at h; exact h); obtain ⟨x', y', z', rfl, h1', h2', h3'⟩ := cells3 (by rw [trC] at h'; exact h'); have e1 := lit_eq h1; have e3 := lit_eq h3; have e1' := lit_eq h1'; have e3' := lit_eq h3'; obtain ⟨a, c, e2⟩ := row_form h2; obtain ⟨a', c', e2'⟩ := row_form h2'; subst e1; subst e2; subst e3; subst e1'; subst e2'; subst e3'; clear h h' h1 h2 h3 h1' h2' h3'; simp only [List.length_nil]; obtain ⟨wb, hwb⟩ := eX ((w.alloc (.cells #[.string ⟨s.toArray⟩, .slice a 0 c, .bool b] 41)).alloc (.cells #[.string ⟨s.toArray⟩, .slice a' 0 c', .bool b] 41)); have ob : Only (fun _ => False) w wb := by rw [← hwb]; exact ((Only.refl _ w).alloc _).alloc _
 obtain ⟨bA, hbA⟩ := eX (w.heap.size); obtain ⟨bB, hbB⟩ := eX (bA + 1); have hx1 : wb.heap[bA]? = some (.cells #[.string ⟨s.toArray⟩, .slice a 0 c, .bool b] 41 (0, 0)) := by rw [← hwb, ← hbA]; exact heap_old (heap_new w _) _
 have hx2 : wb.heap[bB]? = some (.cells #[.string ⟨s.toArray⟩, .slice a' 0 c', .bool b] 41 (0, 0)) := by
  rw [← hwb, ← hbB, ← hbA]; have := heap_new (w.alloc (.cells #[.string ⟨s.toArray⟩, .slice a 0 c, .bool b] 41)) (.cells #[.string ⟨s.toArray⟩, .slice a' 0 c', .bool b] 41); rw [World.size_alloc] at this; exact this
 obtain ⟨c0, c1, c2, -⟩ := boxN3 hx1; obtain ⟨d0, d1, d2, -⟩ := boxN3 hx2; have HOB := hid ob; have HWB := hid hwb; have HBA := hid hbA; have HBB := hid hbB; have HX := hid (fun (wx : World) (ox : Only (fun _ => False) wb.drew wx) => have o := (Only.refl _ wb).drew.trans ox; And.intro (keepc o c1) (keepc o d1)); clear hx1 hx2 ob hwb hbA hbB
 go_enter Tryz.func24, Tryz.ntmps24
 go_upto_region 1 with (fail)
 rw [HWB.out, HBA.out, HBB.out]
 go_upto_region 3 with (fail)
 clear c0 c1 c2 d0 d1 d2; refine wp_region_steps 15 (by kernel_rfl) rfl (by kernel_rfl) [some 26, some 27, some 28, some 29, some 30, some 31, some 32, some 33, some 34, some 35, some 36, some 37, some 38, some 39, some 40] rfl rfl (fun _ => False) [(fun v _ => v = (.pointer (some ⟨bA, 1, none⟩))), (fun v _ => v = (.slice a 0 c)), (fun v _ => v = (.int .i64 0)), (fun v _ => v = (.bool true)), (fun v _ => v = (.bool true)), (fun v _ => v = undef), (fun v _ => v = undef), (fun v _ => v = undef), (fun v _ => v = undef), (fun v _ => v = undef), (fun v _ => v = undef), (fun v _ => v = undef), (fun v _ => v = undef), (fun v _ => v = undef), (fun v _ => v = (.bool true))] rfl ⟨?_, ?_, ?_, ?_, ?_, ?_, ?_, ?_, ?_, ?_, ?_, ?_, ?_, ?_, ?_, trivial⟩ _ rfl ⟨?_, ?_, ?_, ?_, ?_, ?_, ?_, ?_, ?_, ?_, ?_, ?_, ?_, ?_, ?_, trivial⟩ ?_
 iterate 15 exact Stable.is _ _
 ·intro x wx ox hN TT HTT; unfold StepTo; simp only [putAll, Act.put, zA, zB, zC]; clear hN
  go_wp2_with fail
  exact ⟨rfl, _, rfl, HTT.out _ _ rfl oR⟩
 ·intro x wx ox hN TT HTT; unfold StepTo; simp only [putAll, Act.put, zA, zB, zC, eI (hN.1 rfl)]; clear hN; obtain ⟨m1, m2⟩ := HX.out wx ox
  go_wp2_with fail
  exact ⟨rfl, _, rfl, HTT.out _ _ rfl oR⟩
 ·intro x wx ox hN TT HTT; unfold StepTo; simp only [putAll, Act.put, zA, zB, zC, eI (hN.1 rfl)]; clear hN
  go_wp2_with fail
  exact ⟨rfl, _, rfl, HTT.out _ _ rfl oR⟩
 ·intro x wx ox hN TT HTT; unfold StepTo; simp only [putAll, Act.put, zA, zB, zC, eI (hN.1 rfl)]; clear hN
  go_wp2_with fail
  exact ⟨rfl, _, rfl, HTT.out _ _ rfl oR⟩
 ·intro x wx ox hN TT HTT; unfold StepTo; simp only [putAll, Act.put, zA, zB, zC, eI (hN.1 rfl)]; clear hN
  go_wp2_with fail
  exact ⟨rfl, _, rfl, HTT.out _ _ rfl oR⟩
 ·intro x wx ox hN TT HTT; unfold StepTo; simp only [putAll, Act.put, zA, zB, zC, eI (hN.1 rfl)]; clear hN
  go_wp2_with fail
  exact ⟨rfl, _, rfl, HTT.out _ _ rfl oR⟩
 ·intro x wx ox hN TT HTT; unfold StepTo; simp only [putAll, Act.put, zA, zB, zC, eI (hN.1 rfl), eI (hN.2.1 rfl)]; clear hN
  go_wp2_with fail
  exact ⟨rfl, _, rfl, HTT.out _ _ rfl oR⟩
 ·intro x wx ox hN TT HTT; unfold StepTo; simp only [putAll, Act.put, zA, zB, zC, eI (hN.1 rfl), eI (hN.2.1 rfl)]; clear hN
  go_wp2_with fail
  exact ⟨rfl, _, rfl, HTT.out _ _ rfl oR⟩
 ·intro x wx ox hN TT HTT; unfold StepTo; simp only [putAll, Act.put, zA, zB, zC, eI (hN.1 rfl), eI (hN.2.1 rfl)]; clear hN
  go_wp2_with fail
  exact ⟨rfl, _, rfl, HTT.out _ _ rfl oR⟩
 ·intro x wx ox hN TT HTT; unfold StepTo; simp only [putAll, Act.put, zA, zB, zC, eI (hN.1 rfl)]; clear hN
  go_wp2_with fail
  exact ⟨rfl, _, rfl, HTT.out _ _ rfl oR⟩
 ·intro x wx ox hN TT HTT; unfold StepTo; simp only [putAll, Act.put, zA, zB, zC, eI (hN.1 rfl), eI (hN.2.1 rfl)]; clear hN
  go_wp2_with fail
  exact ⟨rfl, _, rfl, HTT.out _ _ rfl oR⟩
 ·intro x wx ox hN TT HTT; unfold StepTo; simp only [putAll, Act.put, zA, zB, zC, eI (hN.1 rfl), eI (hN.2.1 rfl)]; clear hN
  go_wp2_with fail
  exact ⟨rfl, _, rfl, HTT.out _ _ rfl oR⟩
 ·intro x wx ox hN TT HTT; unfold StepTo; simp only [putAll, Act.put, zA, zB, zC, eI (hN.1 rfl), eI (hN.2.1 rfl)]; clear hN
  go_wp2_with fail
  exact ⟨rfl, _, rfl, HTT.out _ _ rfl oR⟩
 ·intro x wx ox hN TT HTT; unfold StepTo; simp only [putAll, Act.put, zA, zB, zC, eI (hN.1 rfl), eI (hN.2.1 rfl), eI (hN.2.2.1 rfl)]; clear hN
  go_wp2_with fail
  exact ⟨rfl, _, rfl, HTT.out _ _ rfl oR⟩
 ·intro x wx ox hN TT HTT; unfold StepTo; simp only [putAll, Act.put, zA, zB, zC, eI (hN.1 rfl), eI (hN.2.1 rfl)]; clear hN
  go_wp2_with fail
  exact ⟨rfl, _, rfl, HTT.out _ _ rfl oR⟩
 intro xz wxz oxz hN; simp only [putAll, Act.put, zA, zB, zC, eI hN.1, eI hN.2.1, eI hN.2.2.1, eI hN.2.2.2.1, eI hN.2.2.2.2.1, eI hN.2.2.2.2.2.1, eI hN.2.2.2.2.2.2.1, eI hN.2.2.2.2.2.2.2.1, eI hN.2.2.2.2.2.2.2.2.1, eI hN.2.2.2.2.2.2.2.2.2.1, eI hN.2.2.2.2.2.2.2.2.2.2.1, eI hN.2.2.2.2.2.2.2.2.2.2.2.1, eI hN.2.2.2.2.2.2.2.2.2.2.2.2.1, eI hN.2.2.2.2.2.2.2.2.2.2.2.2.2.1, eI hN.2.2.2.2.2.2.2.2.2.2.2.2.2.2.1]; clear hN; have OZ := hid (HOB.out.trans ((Only.refl _ wb).drew.trans oxz)); clear oxz
 go_wp2_with fail
 go_ret
 exact ⟨rfl, OZ.out⟩
theorem cells3_of {w : World} {g p : Nat} {x y z : Value} (h : ∀ j q, ([x, y, z] : List Value)[j]? = some q → w.cell? ⟨g, p + j, none⟩ = some q) : w.cell? ⟨g, p, none⟩ = some x ∧ w.cell? ⟨g, p + 1, none⟩ = some y ∧ w.cell? ⟨g, p + 2, none⟩ = some z := ⟨h 0 x rfl, h 1 y rfl, h 2 z rfl⟩
set_option maxRecDepth 100000 in
set_option maxHeartbeats 8000000 in
theorem sameT_ls (t : TR) (IH : ∀ (G G' : Nat → Prop) (w : World) (cs ds : List Value), CellsAt w G (trC t) cs → CellsAt w G' (trC t) ds →
  Calls Tryz.prog 24 #[.agg cs.toArray, .agg ds.toArray] w (fun e w' => e = .returned (.bool true) ∧ Only (fun _ => False) w w')) (b : Bool) (G G' : Nat → Prop) (w : World) (cs ds : List Value) (h : CellsAt w G (trC (.ls t b)) cs) (h' : CellsAt w G' (trC (.ls t b)) ds) :
  Calls Tryz.prog 24 #[.agg cs.toArray, .agg ds.toArray] w (fun e w' => e = .returned (.bool true) ∧ Only (fun _ => False) w w') := by
 obtain ⟨v, rfl, hv⟩ := tr_ls_cells h; obtain ⟨v', rfl, hv'⟩ := tr_ls_cells h'; have hv : CellAt w G (.row 3 ([t].map trC)) v := hv; have hv' : CellAt w G' (.row 3 ([t].map trC)) v' := hv'; obtain ⟨a, c, rfl, k1, k2, k3⟩ := rows_at hv; obtain ⟨a', c', rfl, k1', k2', k3'⟩ := rows_at hv'; obtain ⟨g, o, xs, rfl, -, q1, q2⟩ := k3 0 (by simp); obtain ⟨g', o', xs', rfl, -, q1', q2'⟩ := k3' 0 (by simp); have q2 : CellsAt w G (trC t) xs := q2; have q2' : CellsAt w G' (trC t) xs' := q2'; have hrec := fun (wx : World) (ox : Only (fun _ => False) w wx) => IH G G' wx _ _ (CellsAt.only ox (fun _ _ h => h) _ _ q2) (CellsAt.only ox (fun _ _ h => h) _ _ q2')
 obtain ⟨s1, a1, l1, c1, b1, rfl⟩ := trC_form2 q2; obtain ⟨s2, a2, l2, c2, b2, rfl⟩ := trC_form2 q2'; rw [Nat.zero_mul, Nat.add_zero] at q1 q1'; obtain ⟨e0, e1, e2⟩ := cells3_of q1; obtain ⟨f0, f1, f2⟩ := cells3_of q1'; simp only [List.length_cons, List.length_nil, Nat.zero_add] at k1 k1' ⊢; obtain ⟨wb, hwb⟩ := eX ((w.alloc (.cells #[.string ⟨#[]⟩, .slice (some ⟨g, o, none⟩) 1 c, .bool b] 41)).alloc (.cells #[.string ⟨#[]⟩, .slice (some ⟨g', o', none⟩) 1 c', .bool b] 41)); have ob : Only (fun _ => False) w wb := by rw [← hwb]; exact ((Only.refl _ w).alloc _).alloc _
 obtain ⟨bA, hbA⟩ := eX (w.heap.size); obtain ⟨bB, hbB⟩ := eX (bA + 1); have hx1 : wb.heap[bA]? = some (.cells #[.string ⟨#[]⟩, .slice (some ⟨g, o, none⟩) 1 c, .bool b] 41 (0, 0)) := by rw [← hwb, ← hbA]; exact heap_old (heap_new w _) _
 have hx2 : wb.heap[bB]? = some (.cells #[.string ⟨#[]⟩, .slice (some ⟨g', o', none⟩) 1 c', .bool b] 41 (0, 0)) := by
  rw [← hwb, ← hbB, ← hbA]; have := heap_new (w.alloc (.cells #[.string ⟨#[]⟩, .slice (some ⟨g, o, none⟩) 1 c, .bool b] 41)) (.cells #[.string ⟨#[]⟩, .slice (some ⟨g', o', none⟩) 1 c', .bool b] 41); rw [World.size_alloc] at this; exact this
 obtain ⟨c0, c1, c2, -⟩ := boxN3 hx1; obtain ⟨d0, d1, d2, -⟩ := boxN3 hx2; have HOB := hid ob; have HWB := hid hwb; have HBA := hid hbA; have HBB := hid hbB; have HX := hid (fun (wx : World) (ox : Only (fun _ => False) wb.drew wx) => have o := (Only.refl _ wb).drew.trans ox; have ow := ob.trans o; And.intro (keepc o c1) (And.intro (keepc o d1) (And.intro (keepc ow e0) (And.intro (keepc ow e1) (And.intro (keepc ow e2) (And.intro (keepc ow f0) (And.intro (keepc ow f1) (keepc ow f2)))))))); have HREC := hid (fun (wx : World) (ox : Only (fun _ => False) wb.drew wx) => hrec wx (ob.trans ((Only.refl _ wb).drew.trans ox))); clear hx1 hx2 ob hwb hbA hbB hrec e0 e1 e2 f0 f1 f2 q1 q1' q2 q2' k3 k3' hv hv' h h'
 go_enter Tryz.func24, Tryz.ntmps24
 go_upto_region 1 with (fail)
 rw [HWB.out, HBA.out, HBB.out]
 go_upto_region 3 with (fail)
 clear c0 c1 c2 d0 d1 d2; refine wp_region_steps 15 (by kernel_rfl) rfl (by kernel_rfl) [some 26, some 27, some 28, some 29, some 30, some 31, some 32, some 33, some 34, some 35, some 36, some 37, some 38, some 39, some 40] rfl rfl (fun _ => False) [(fun v _ => v = (.pointer (some ⟨bA, 1, none⟩))), (fun v _ => v = (.slice (some ⟨g, o, none⟩) 1 c)), (fun v _ => v = (.int .i64 1)), (fun v _ => v = (.bool false)), (fun v _ => v = (.bool false)), (fun v _ => v = (.pointer (some ⟨bA, 1, none⟩))), (fun v _ => v = (.slice (some ⟨g, o, none⟩) 1 c)), (fun v _ => v = (.pointer (some ⟨g, o, none⟩))), (fun v _ => v = (.agg #[.string ⟨s1.toArray⟩, .slice a1 l1 c1, .bool b1])), (fun v _ => v = (.pointer (some ⟨bB, 1, none⟩))), (fun v _ => v = (.slice (some ⟨g', o', none⟩) 1 c')), (fun v _ => v = (.pointer (some ⟨g', o', none⟩))), (fun v _ => v = (.agg #[.string ⟨s2.toArray⟩, .slice a2 l2 c2, .bool b2])), (fun v _ => v = (.bool true)), (fun v _ => v = (.bool true))] rfl ⟨?_, ?_, ?_, ?_, ?_, ?_, ?_, ?_, ?_, ?_, ?_, ?_, ?_, ?_, ?_, trivial⟩ _ rfl ⟨?_, ?_, ?_, ?_, ?_, ?_, ?_, ?_, ?_, ?_, ?_, ?_, ?_, ?_, ?_, trivial⟩ ?_
 iterate 15 exact Stable.is _ _
 ·intro x wx ox hN TT HTT; unfold StepTo; simp only [putAll, Act.put, zA, zB, zC]; clear hN
  go_wp2_with fail
  exact ⟨rfl, _, rfl, HTT.out _ _ rfl oR⟩
 ·intro x wx ox hN TT HTT; unfold StepTo; simp only [putAll, Act.put, zA, zB, zC, eI (hN.1 rfl)]; clear hN; obtain ⟨m1, m2, m3, m4, m5, m6, m7, m8⟩ := HX.out wx ox
  go_wp2_with fail
  exact ⟨rfl, _, rfl, HTT.out _ _ rfl oR⟩
 ·intro x wx ox hN TT HTT; unfold StepTo; simp only [putAll, Act.put, zA, zB, zC, eI (hN.1 rfl)]; clear hN
  go_wp2_with fail
  exact ⟨rfl, _, rfl, HTT.out _ _ rfl oR⟩
 ·intro x wx ox hN TT HTT; unfold StepTo; simp only [putAll, Act.put, zA, zB, zC, eI (hN.1 rfl)]; clear hN
  go_wp2_with fail
  exact ⟨rfl, _, rfl, HTT.out _ _ rfl oR⟩
 ·intro x wx ox hN TT HTT; unfold StepTo; simp only [putAll, Act.put, zA, zB, zC, eI (hN.1 rfl)]; clear hN
  go_wp2_with fail
  exact ⟨rfl, _, rfl, HTT.out _ _ rfl oR⟩
 ·intro x wx ox hN TT HTT; unfold StepTo; simp only [putAll, Act.put, zA, zB, zC, eI (hN.1 rfl)]; clear hN
  go_wp2_with fail
  exact ⟨rfl, _, rfl, HTT.out _ _ rfl oR⟩
 ·intro x wx ox hN TT HTT; unfold StepTo; simp only [putAll, Act.put, zA, zB, zC, eI (hN.1 rfl), eI (hN.2.1 rfl)]; clear hN; obtain ⟨m1, m2, m3, m4, m5, m6, m7, m8⟩ := HX.out wx ox
  go_wp2_with fail
  exact ⟨rfl, _, rfl, HTT.out _ _ rfl oR⟩
 ·intro x wx ox hN TT HTT; unfold StepTo; simp only [putAll, Act.put, zA, zB, zC, eI (hN.1 rfl), eI (hN.2.1 rfl)]; clear hN
  go_wp2_with fail
  exact ⟨rfl, _, rfl, HTT.out _ _ rfl oR⟩
 ·intro x wx ox hN TT HTT; unfold StepTo; simp only [putAll, Act.put, zA, zB, zC, eI (hN.1 rfl), eI (hN.2.1 rfl)]; clear hN; obtain ⟨m1, m2, m3, m4, m5, m6, m7, m8⟩ := HX.out wx ox
  go_wp2_with fail
  exact ⟨rfl, _, rfl, HTT.out _ _ rfl oR⟩
 ·intro x wx ox hN TT HTT; unfold StepTo; simp only [putAll, Act.put, zA, zB, zC, eI (hN.1 rfl)]; clear hN
  go_wp2_with fail
  exact ⟨rfl, _, rfl, HTT.out _ _ rfl oR⟩
 ·intro x wx ox hN TT HTT; unfold StepTo; simp only [putAll, Act.put, zA, zB, zC, eI (hN.1 rfl), eI (hN.2.1 rfl)]; clear hN; obtain ⟨m1, m2, m3, m4, m5, m6, m7, m8⟩ := HX.out wx ox
  go_wp2_with fail
  exact ⟨rfl, _, rfl, HTT.out _ _ rfl oR⟩
 ·intro x wx ox hN TT HTT; unfold StepTo; simp only [putAll, Act.put, zA, zB, zC, eI (hN.1 rfl), eI (hN.2.1 rfl)]; clear hN
  go_wp2_with fail
  exact ⟨rfl, _, rfl, HTT.out _ _ rfl oR⟩
 ·intro x wx ox hN TT HTT; unfold StepTo; simp only [putAll, Act.put, zA, zB, zC, eI (hN.1 rfl), eI (hN.2.1 rfl)]; clear hN; obtain ⟨m1, m2, m3, m4, m5, m6, m7, m8⟩ := HX.out wx ox
  go_wp2_with fail
  exact ⟨rfl, _, rfl, HTT.out _ _ rfl oR⟩
 ·intro x wx ox hN TT HTT; unfold StepTo; simp only [putAll, Act.put, zA, zB, zC, eI (hN.1 rfl), eI (hN.2.1 rfl), eI (hN.2.2.1 rfl)]; clear hN; have ht := HREC.out wx ox; have HT := hid ht; clear ht
  go_wp2_with fail
  refine HT.out.mono ?_
  rintro e w6 ⟨rfl, o6⟩; have O6 := hid o6; clear o6
  go_wp2_with fail
  exact ⟨rfl, _, rfl, HTT.out _ _ rfl (O6.out)⟩
 ·intro x wx ox hN TT HTT; unfold StepTo; simp only [putAll, Act.put, zA, zB, zC, eI (hN.1 rfl), eI (hN.2.1 rfl)]; clear hN
  go_wp2_with fail
  exact ⟨rfl, _, rfl, HTT.out _ _ rfl oR⟩
 intro xz wxz oxz hN; simp only [putAll, Act.put, zA, zB, zC, eI hN.1, eI hN.2.1, eI hN.2.2.1, eI hN.2.2.2.1, eI hN.2.2.2.2.1, eI hN.2.2.2.2.2.1, eI hN.2.2.2.2.2.2.1, eI hN.2.2.2.2.2.2.2.1, eI hN.2.2.2.2.2.2.2.2.1, eI hN.2.2.2.2.2.2.2.2.2.1, eI hN.2.2.2.2.2.2.2.2.2.2.1, eI hN.2.2.2.2.2.2.2.2.2.2.2.1, eI hN.2.2.2.2.2.2.2.2.2.2.2.2.1, eI hN.2.2.2.2.2.2.2.2.2.2.2.2.2.1, eI hN.2.2.2.2.2.2.2.2.2.2.2.2.2.2.1]; clear hN; have OZ := hid (HOB.out.trans ((Only.refl _ wb).drew.trans oxz)); clear oxz
 go_wp2_with fail
 go_ret
 exact ⟨rfl, OZ.out⟩
theorem sameT_true : ∀ (t : TR) (G G' : Nat → Prop) (w : World) (cs ds : List Value), CellsAt w G (trC t) cs → CellsAt w G' (trC t) ds →
  Calls Tryz.prog 24 #[.agg cs.toArray, .agg ds.toArray] w (fun e w' => e = .returned (.bool true) ∧ Only (fun _ => False) w w')
 | .nm s b => sameT_nm s b
 | .ls t b => sameT_ls t (sameT_true t) b
theorem cells11_of {w : World} {g p : Nat} {x0 x1 x2 x3 x4 x5 x6 x7 x8 x9 x10 : Value} (h : ∀ j q, ([x0, x1, x2, x3, x4, x5, x6, x7, x8, x9, x10] : List Value)[j]? = some q → w.cell? ⟨g, p + j, none⟩ = some q) : w.cell? ⟨g, p, none⟩ = some x0 ∧ w.cell? ⟨g, p + 1, none⟩ = some x1 ∧ w.cell? ⟨g, p + 2, none⟩ = some x2 ∧ w.cell? ⟨g, p + 3, none⟩ = some x3 ∧ w.cell? ⟨g, p + 4, none⟩ = some x4 ∧ w.cell? ⟨g, p + 5, none⟩ = some x5 ∧ w.cell? ⟨g, p + 6, none⟩ = some x6 ∧ w.cell? ⟨g, p + 7, none⟩ = some x7 ∧ w.cell? ⟨g, p + 8, none⟩ = some x8 ∧ w.cell? ⟨g, p + 9, none⟩ = some x9 ∧ w.cell? ⟨g, p + 10, none⟩ = some x10 := ⟨h 0 _ rfl, h 1 _ rfl, h 2 _ rfl, h 3 _ rfl, h 4 _ rfl, h 5 _ rfl, h 6 _ rfl, h 7 _ rfl, h 8 _ rfl, h 9 _ rfl, h 10 _ rfl⟩
theorem cells4_in {w : World} {g p : Nat} {x0 x1 x2 x3 : Value} (h : ∀ j q, ([x0, x1, x2, x3] : List Value)[j]? = some q → w.cell? ⟨g, p + j, none⟩ = some q) : w.cell? ⟨g, p, none⟩ = some x0 ∧ w.cell? ⟨g, p + 1, none⟩ = some x1 ∧ w.cell? ⟨g, p + 2, none⟩ = some x2 ∧ w.cell? ⟨g, p + 3, none⟩ = some x3 := ⟨h 0 _ rfl, h 1 _ rfl, h 2 _ rfl, h 3 _ rfl⟩
theorem fdC_form {w : World} {G : Nat → Prop} {f : FD} {cs : List Value} (h : CellsAt w G (fdC f) cs) : ∃ (m0 : List UInt8) (g : Option Addr) (lg eg : Nat) (s1 : List UInt8) (a1 : Option Addr) (l1 e1 : Nat) (b1 h1 : Bool) (k : Nat) (n : Int) (s2 : List UInt8) (a2 : Option Addr) (l2 e2 : Nat) (a3 : Option Addr) (l3 e3 : Nat), cs.toArray = #[.string ⟨m0.toArray⟩, .slice g lg eg, .string ⟨s1.toArray⟩, .slice a1 l1 e1, .bool b1, .bool h1, .int .u8 (k : Int), .int .i64 n, .string ⟨s2.toArray⟩, .slice a2 l2 e2, .slice a3 l3 e3] := by
 obtain ⟨gv, ts, us, rfl, hg, ht, hu⟩ := fd_cells h; obtain ⟨g, eg, rfl, -⟩ := rows_at hg; obtain ⟨s1, a1, l1, e1, b1, rfl⟩ := trC_form2 ht; obtain ⟨k, n, s2, a2, l2, e2, a3, l3, e3, rfl⟩ := valC_form2 hu; exact ⟨_, _, _, _, _, _, _, _, _, _, _, _, _, _, _, _, _, _, _, rfl⟩
def SameFD (f : FD) : Prop := ∀ (G G' : Nat → Prop) (w : World) (cs ds : List Value), CellsAt w G (fdC f) cs → CellsAt w G' (fdC f) ds →
  Calls Tryz.prog 88 #[.agg cs.toArray, .agg ds.toArray] w (fun e w' => e = .returned (.bool true) ∧ Only (fun _ => False) w w')
def SameFDs (fs : List FD) : Prop := ∀ (G G' : Nat → Prop) (w : World) (v u : Value), CellAt w G (.row 11 (fs.map fdC)) v → CellAt w G' (.row 11 (fs.map fdC)) u →
  Calls Tryz.prog 68 #[v, u] w (fun e w' => e = .returned (.bool true) ∧ Only (fun _ => False) w w')
set_option maxRecDepth 100000 in
set_option maxHeartbeats 16000000 in
theorem sameFds_of (fs : List FD) (ih : ∀ f ∈ fs, SameFD f) : SameFDs fs := by
 intro G G' w v u h h'; obtain ⟨a, c, rfl, k1, k2, k3⟩ := rows_at h; obtain ⟨a', c', rfl, k1', k2', k3'⟩ := rows_at h'; obtain ⟨L, hL⟩ := eX (fs.length); rw [hL] at k1 k1' ⊢; have HL := hid hL; have HK := hid k3; have HK' := hid k3'; have IH := hid ih; clear hL k3 k3' h h' ih
 go_enter Tryz.func68, Tryz.ntmps68
 go_wp2_with fail
 go_loopw [5] (fun v wr => ∃ i : Nat, v = .int .i64 (i : Int) ∧ i ≤ L ∧ Hid (Only (fun _ => False) w wr)) (fun v _ => L - (intOf v).toNat)
 case atStart => exact ⟨0, by simp, by omega, hid oR⟩
 case round =>
  obtain ⟨i, rfl, hi, HO⟩ := hrel
  by_cases hlt : i < L
  ·have t3 : decide ((i : Int) < (L : Int)) = true := by simpa using hlt
   have hi0 : (0 : Int) ≤ (i : Int) := by omega
   have hi1 : (i : Int) < (L : Int) := by omega
   have hil : i < fs.length := by rw [HL.out]; exact hlt
   obtain ⟨gg, o, xs, rfl, -, q1, q2⟩ := HK.out i hil; obtain ⟨gg', o', xs', rfl, -, q1', q2'⟩ := HK'.out i hil; have hrec := fun (wx : World) (ox : Only (fun _ => False) w wx) => IH.out _ (List.getElem_mem hil) G G' wx _ _ (CellsAt.only ox (fun _ _ h => h) _ _ q2) (CellsAt.only ox (fun _ _ h => h) _ _ q2')
   obtain ⟨m0, g, lg, eg, s1, a1, l1, e1, b1, h1, k, n, s2, a2, l2, e2, a3, l3, e3, he⟩ := fdC_form q2; obtain ⟨m0', g', lg', eg', s1', a1', l1', e1', b1', h1', k', n', s2', a2', l2', e2', a3', l3', e3', he'⟩ := fdC_form q2'; rw [he, he'] at hrec; have hxs : xs = (#[.string ⟨m0.toArray⟩, .slice g lg eg, .string ⟨s1.toArray⟩, .slice a1 l1 e1, .bool b1, .bool h1, .int .u8 (k : Int), .int .i64 n, .string ⟨s2.toArray⟩, .slice a2 l2 e2, .slice a3 l3 e3] : Array Value).toList := by rw [← he]
   have hxs' : xs' = (#[.string ⟨m0'.toArray⟩, .slice g' lg' eg', .string ⟨s1'.toArray⟩, .slice a1' l1' e1', .bool b1', .bool h1', .int .u8 (k' : Int), .int .i64 n', .string ⟨s2'.toArray⟩, .slice a2' l2' e2', .slice a3' l3' e3'] : Array Value).toList := by rw [← he']
   rw [hxs] at q1; rw [hxs'] at q1'; obtain ⟨e0_, e1_, e2_, e3_, e4_, e5_, e6_, e7_, e8_, e9_, e10_⟩ := cells11_of q1; obtain ⟨f0, f1, f2, f3, f4, f5, f6, f7, f8, f9, f10⟩ := cells11_of q1'; have HX := hid (fun (wx : World) (ox : Only (fun _ => False) wr.drew wx) => have ow := HO.out.trans ((Only.refl _ wr).drew.trans ox); And.intro (keepc ow e0_) (And.intro (keepc ow e1_) (And.intro (keepc ow e2_) (And.intro (keepc ow e3_) (And.intro (keepc ow e4_) (And.intro (keepc ow e5_) (And.intro (keepc ow e6_) (And.intro (keepc ow e7_) (And.intro (keepc ow e8_) (And.intro (keepc ow e9_) (And.intro (keepc ow e10_) (And.intro (keepc ow f0) (And.intro (keepc ow f1) (And.intro (keepc ow f2) (And.intro (keepc ow f3) (And.intro (keepc ow f4) (And.intro (keepc ow f5) (And.intro (keepc ow f6) (And.intro (keepc ow f7) (And.intro (keepc ow f8) (And.intro (keepc ow f9) (keepc ow f10)))))))))))))))))))))); have HREC := hid (fun (wx : World) (ox : Only (fun _ => False) wr.drew wx) => hrec wx (HO.out.trans ((Only.refl _ wr).drew.trans ox))); clear hrec q1 q1' q2 q2' he he' hxs hxs' e0_ e1_ e2_ e3_ e4_ e5_ e6_ e7_ e8_ e9_ e10_ f0 f1 f2 f3 f4 f5 f6 f7 f8 f9 f10
   go_upto_region 6 with (fail)
   refine wp_region_steps 9 (by kernel_rfl) rfl (by kernel_rfl) [some 17, some 18, some 19, some 20, some 21, some 22, some 23, some 24, some 25] rfl rfl (fun _ => False) [(fun v _ => v = (.slice (some ⟨gg, o, none⟩) L c)), (fun v _ => v = (.int .i64 (i : Int))), (fun v _ => v = (.pointer (some ⟨gg, o + i * 11, none⟩))), (fun v _ => v = (.agg #[.string ⟨m0.toArray⟩, .slice g lg eg, .string ⟨s1.toArray⟩, .slice a1 l1 e1, .bool b1, .bool h1, .int .u8 (k : Int), .int .i64 n, .string ⟨s2.toArray⟩, .slice a2 l2 e2, .slice a3 l3 e3])), (fun v _ => v = (.slice (some ⟨gg', o', none⟩) L c')), (fun v _ => v = (.int .i64 (i : Int))), (fun v _ => v = (.pointer (some ⟨gg', o' + i * 11, none⟩))), (fun v _ => v = (.agg #[.string ⟨m0'.toArray⟩, .slice g' lg' eg', .string ⟨s1'.toArray⟩, .slice a1' l1' e1', .bool b1', .bool h1', .int .u8 (k' : Int), .int .i64 n', .string ⟨s2'.toArray⟩, .slice a2' l2' e2', .slice a3' l3' e3'])), (fun v _ => v = (.bool true))] rfl ⟨?_, ?_, ?_, ?_, ?_, ?_, ?_, ?_, ?_, trivial⟩ _ rfl ⟨?_, ?_, ?_, ?_, ?_, ?_, ?_, ?_, ?_, trivial⟩ ?_
   iterate 9 exact Stable.is _ _
   ·intro x wx ox hN TT HTT; unfold StepTo; simp only [putAll, Act.put, zA, zB, zC]; clear hN
    go_wp2_with fail
    exact ⟨rfl, _, rfl, HTT.out _ _ rfl oR⟩
   ·intro x wx ox hN TT HTT; unfold StepTo; simp only [putAll, Act.put, zA, zB, zC]; clear hN
    go_wp2_with fail
    exact ⟨rfl, _, rfl, HTT.out _ _ rfl oR⟩
   ·intro x wx ox hN TT HTT; unfold StepTo; simp only [putAll, Act.put, zA, zB, zC, eI (hN.1 rfl), eI (hN.2.1 rfl)]; clear hN
    go_wp2_with fail
    exact ⟨rfl, _, rfl, HTT.out _ _ rfl oR⟩
   ·intro x wx ox hN TT HTT; unfold StepTo; simp only [putAll, Act.put, zA, zB, zC, eI (hN.1 rfl)]; clear hN; obtain ⟨m0_, m1_, m2_, m3_, m4_, m5_, m6_, m7_, m8_, m9_, m10_, m11_, m12_, m13_, m14_, m15_, m16_, m17_, m18_, m19_, m20_, m21_⟩ := HX.out wx ox
    go_wp2_with fail
    exact ⟨rfl, _, rfl, HTT.out _ _ rfl oR⟩
   ·intro x wx ox hN TT HTT; unfold StepTo; simp only [putAll, Act.put, zA, zB, zC]; clear hN
    go_wp2_with fail
    exact ⟨rfl, _, rfl, HTT.out _ _ rfl oR⟩
   ·intro x wx ox hN TT HTT; unfold StepTo; simp only [putAll, Act.put, zA, zB, zC]; clear hN
    go_wp2_with fail
    exact ⟨rfl, _, rfl, HTT.out _ _ rfl oR⟩
   ·intro x wx ox hN TT HTT; unfold StepTo; simp only [putAll, Act.put, zA, zB, zC, eI (hN.1 rfl), eI (hN.2.1 rfl)]; clear hN
    go_wp2_with fail
    exact ⟨rfl, _, rfl, HTT.out _ _ rfl oR⟩
   ·intro x wx ox hN TT HTT; unfold StepTo; simp only [putAll, Act.put, zA, zB, zC, eI (hN.1 rfl)]; clear hN; obtain ⟨m0_, m1_, m2_, m3_, m4_, m5_, m6_, m7_, m8_, m9_, m10_, m11_, m12_, m13_, m14_, m15_, m16_, m17_, m18_, m19_, m20_, m21_⟩ := HX.out wx ox
    go_wp2_with fail
    exact ⟨rfl, _, rfl, HTT.out _ _ rfl oR⟩
   ·intro x wx ox hN TT HTT; unfold StepTo; simp only [putAll, Act.put, zA, zB, zC, eI (hN.1 rfl), eI (hN.2.1 rfl)]; clear hN; have ht := HREC.out wx ox; have HT := hid ht; clear ht
    go_wp2_with fail
    refine HT.out.mono ?_
    rintro e w6 ⟨rfl, o6⟩; have O6 := hid o6; clear o6
    go_wp2_with fail
    exact ⟨rfl, _, rfl, HTT.out _ _ rfl (O6.out)⟩
   intro xz wxz oxz hN; simp only [putAll, Act.put, zA, zB, zC, eI hN.1, eI hN.2.1, eI hN.2.2.1, eI hN.2.2.2.1, eI hN.2.2.2.2.1, eI hN.2.2.2.2.2.1, eI hN.2.2.2.2.2.2.1, eI hN.2.2.2.2.2.2.2.1, eI hN.2.2.2.2.2.2.2.2.1]; clear hN; have OZ := hid (HO.out.trans ((Only.refl _ wr).drew.trans oxz)); clear oxz
   go_wp2_with fail
   go_roundw
   case rel => exact ⟨i + 1, by simp [go_sem], by omega, OZ⟩
   case measure => simp [intOf]; omega
  ·have hke : i = L := by omega
   subst hke; have t3 : decide ((i : Int) < (i : Int)) = false := by simp
   go_wp2_with fail
   go_ret
   exact ⟨rfl, HO.out⟩
set_option maxRecDepth 100000 in
set_option maxHeartbeats 16000000 in
theorem sameFd_of (f : FD) (ih : SameFDs (f.args.map FD.of)) : SameFD f := by
 intro G G' w cs ds h h'; obtain ⟨gv, ts, us, rfl, hg, ht, hu⟩ := fd_cells h; obtain ⟨gv', ts', us', rfl, hg', ht', hu'⟩ := fd_cells h'; have hg2 : CellAt w G (.row 11 ((f.args.map FD.of).map fdC)) gv := by rw [List.map_map]; exact hg
 have hg2' : CellAt w G' (.row 11 ((f.args.map FD.of).map fdC)) gv' := by rw [List.map_map]; exact hg'
 have hga := fun (wx : World) (ox : Only (fun _ => False) w wx) => ih G G' wx _ _ (CellAt.only ox (fun _ _ h => h) _ _ hg2) (CellAt.only ox (fun _ _ h => h) _ _ hg2')
 have hta := fun (wx : World) (ox : Only (fun _ => False) w wx) => sameT_true _ G G' wx _ _ (CellsAt.only ox (fun _ _ h => h) _ _ ht) (CellsAt.only ox (fun _ _ h => h) _ _ ht')
 have hva := fun (wx : World) (ox : Only (fun _ => False) w wx) => sameV_true _ (CellsAt.only ox (fun _ _ h => h) _ _ hu) (CellsAt.only ox (fun _ _ h => h) _ _ hu')
 obtain ⟨g, eg, rfl, -⟩ := rows_at hg; obtain ⟨g', eg', rfl, -⟩ := rows_at hg'; obtain ⟨s1, a1, l1, e1, b1, rfl⟩ := trC_form2 ht; obtain ⟨s1', a1', l1', e1', b1', rfl⟩ := trC_form2 ht'; obtain ⟨k, n, s2, a2, l2, e2, a3, l3, e3, rfl⟩ := valC_form2 hu; obtain ⟨k', n', s2', a2', l2', e2', a3', l3', e3', rfl⟩ := valC_form2 hu'
 generalize f.name = nm at *
 generalize f.has = has at *
 generalize f.args.length = lg at *
 simp only [List.cons_append, List.nil_append]; clear h h' hg hg' hg2 hg2' ht ht' hu hu'; obtain ⟨wb, hwb⟩ := eX ((w.alloc (.cells #[.string ⟨nm.toArray⟩, .slice g lg eg, .string ⟨s1.toArray⟩, .slice a1 l1 e1, .bool b1, .bool has, .int .u8 (k : Int), .int .i64 n, .string ⟨s2.toArray⟩, .slice a2 l2 e2, .slice a3 l3 e3] 104)).alloc (.cells #[.string ⟨nm.toArray⟩, .slice g' lg eg', .string ⟨s1'.toArray⟩, .slice a1' l1' e1', .bool b1', .bool has, .int .u8 (k' : Int), .int .i64 n', .string ⟨s2'.toArray⟩, .slice a2' l2' e2', .slice a3' l3' e3'] 104)); have ob : Only (fun _ => False) w wb := by rw [← hwb]; exact ((Only.refl _ w).alloc _).alloc _
 obtain ⟨bA, hbA⟩ := eX (w.heap.size); obtain ⟨bB, hbB⟩ := eX (bA + 1); have hx1 : wb.heap[bA]? = some (.cells #[.string ⟨nm.toArray⟩, .slice g lg eg, .string ⟨s1.toArray⟩, .slice a1 l1 e1, .bool b1, .bool has, .int .u8 (k : Int), .int .i64 n, .string ⟨s2.toArray⟩, .slice a2 l2 e2, .slice a3 l3 e3] 104 (0, 0)) := by rw [← hwb, ← hbA]; exact heap_old (heap_new w _) _
 have hx2 : wb.heap[bB]? = some (.cells #[.string ⟨nm.toArray⟩, .slice g' lg eg', .string ⟨s1'.toArray⟩, .slice a1' l1' e1', .bool b1', .bool has, .int .u8 (k' : Int), .int .i64 n', .string ⟨s2'.toArray⟩, .slice a2' l2' e2', .slice a3' l3' e3'] 104 (0, 0)) := by
  rw [← hwb, ← hbB, ← hbA]; have := heap_new (w.alloc (.cells #[.string ⟨nm.toArray⟩, .slice g lg eg, .string ⟨s1.toArray⟩, .slice a1 l1 e1, .bool b1, .bool has, .int .u8 (k : Int), .int .i64 n, .string ⟨s2.toArray⟩, .slice a2 l2 e2, .slice a3 l3 e3] 104)) (.cells #[.string ⟨nm.toArray⟩, .slice g' lg eg', .string ⟨s1'.toArray⟩, .slice a1' l1' e1', .bool b1', .bool has, .int .u8 (k' : Int), .int .i64 n', .string ⟨s2'.toArray⟩, .slice a2' l2' e2', .slice a3' l3' e3'] 104); rw [World.size_alloc] at this; exact this
 obtain ⟨c0, c1, c2, c3, c4, c5, c6, c7, c8, c9, c10, -⟩ := boxN11 hx1; obtain ⟨d0, d1, d2, d3, d4, d5, d6, d7, d8, d9, d10, -⟩ := boxN11 hx2; have HOB := hid ob; have HWB := hid hwb; have HBA := hid hbA; have HBB := hid hbB; have HGA := hid (fun (wx : World) (ox : Only (fun _ => False) wb wx) => hga wx (HOB.out.trans ox)); have HTA := hid (fun (wx : World) (ox : Only (fun _ => False) wb wx) => hta wx (HOB.out.trans ox)); have HVA := hid (fun (wx : World) (ox : Only (fun _ => False) wb wx) => hva wx (HOB.out.trans ox)); clear hx1 hx2 ob hwb hbA hbB hga hta hva
 go_enter Tryz.func88, Tryz.ntmps88
 go_upto_region 1 with (fail)
 rw [HWB.out, HBA.out, HBB.out]
 go_wp2_with fail
 refine (HTA.out wb oR).mono ?_
 rintro e w6 ⟨rfl, o6⟩; have c0 := keepc o6 c0; have c1 := keepc o6 c1; have c2 := keepc o6 c2; have c3 := keepc o6 c3; have c4 := keepc o6 c4; have c5 := keepc o6 c5; have c6 := keepc o6 c6; have c7 := keepc o6 c7; have c8 := keepc o6 c8; have c9 := keepc o6 c9; have c10 := keepc o6 c10; have d0 := keepc o6 d0; have d1 := keepc o6 d1; have d2 := keepc o6 d2; have d3 := keepc o6 d3; have d4 := keepc o6 d4; have d5 := keepc o6 d5; have d6 := keepc o6 d6; have d7 := keepc o6 d7; have d8 := keepc o6 d8; have d9 := keepc o6 d9; have d10 := keepc o6 d10; have HO6 := hid o6; clear o6
 go_wp2_with fail
 refine (HVA.out w6 HO6.out).mono ?_
 rintro e w7 ⟨rfl, o7⟩; have c0 := keepc o7 c0; have c1 := keepc o7 c1; have c2 := keepc o7 c2; have c3 := keepc o7 c3; have c4 := keepc o7 c4; have c5 := keepc o7 c5; have c6 := keepc o7 c6; have c7 := keepc o7 c7; have c8 := keepc o7 c8; have c9 := keepc o7 c9; have c10 := keepc o7 c10; have d0 := keepc o7 d0; have d1 := keepc o7 d1; have d2 := keepc o7 d2; have d3 := keepc o7 d3; have d4 := keepc o7 d4; have d5 := keepc o7 d5; have d6 := keepc o7 d6; have d7 := keepc o7 d7; have d8 := keepc o7 d8; have d9 := keepc o7 d9; have d10 := keepc o7 d10; have HO7 := hid (HO6.out.trans o7); clear o7
 go_wp2_with fail
 refine (HGA.out w7 HO7.out).mono ?_
 rintro e w8 ⟨rfl, o8⟩; have HO8 := hid (HOB.out.trans (HO7.out.trans o8)); clear o8; clear c0 c1 c2 c3 c4 c5 c6 c7 c8 c9 c10 d0 d1 d2 d3 d4 d5 d6 d7 d8 d9 d10
 go_wp2_with fail
 go_ret
 exact ⟨rfl, HO8.out⟩
theorem sameFDs_all (fs : List FD) : SameFDs fs := sameFds_of fs fun f _ => sameFd_of f (sameFds_of _ fun g hg => by
 obtain ⟨i, _, rfl⟩ := List.mem_map.1 hg
 exact sameFd_of _ (sameFds_of _ fun f h => by cases h))
end Go.Proofs.YtnkpoddbbdmipaaGreatDoor
