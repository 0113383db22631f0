/- . -/
import Derived.Test.YtnkpoddbbdmipaaGreatDoorTApTys
import Derived.Test.YtnkpoddbbdmipaaGreatDoorTApPrx
import Derived.Test.YtnkpoddbbdmipaaGreatDoorTApPpv
namespace Go.Proofs.YtnkpoddbbdmipaaGreatDoor
open Go Go.RowKit
open Go.Lib (hid)
set_option linter.unusedVariables false
set_option linter.unusedSimpArgs false
set_option maxRecDepth 100000 in
set_option maxHeartbeats 8000000 in
theorem sameT_nm2 (s : List UInt8) (b : Bool) (G G' : Nat → Prop) (w : World) (cs ds : List Value) (h : CellsAt w G (trC (.nm s b)) cs) (h' : CellsAt w G' (trC (.nm s b)) ds) :
  Calls Tryz.prog 24 #[.agg cs.toArray, .agg ds.toArray] w (fun e w' => e = .returned (.bool true) ∧ Only (fun _ => False) w w') := by
 obtain ⟨x, y, z, rfl, h1, h2, h3⟩ := cells3 (by rw [trC] at h; exact h); obtain ⟨x', y', z', rfl, h1', h2', h3'⟩ := cells3 (by rw [trC] at h'; exact h'); have e1 := lit_eq h1; have e3 := lit_eq h3; have e1' := lit_eq h1'; have e3' := lit_eq h3'; obtain ⟨a, c, e2⟩ := row_form h2; obtain ⟨a', c', e2'⟩ := row_form h2'; subst e1; subst e2; subst e3; subst e1'; subst e2'; subst e3'; clear h h' h1 h2 h3 h1' h2' h3'; simp only [List.length_nil]; obtain ⟨wb, hwb⟩ := eX ((w.alloc (.cells #[.string ⟨s.toArray⟩, .slice a 0 c, .bool b] 41)).alloc (.cells #[.string ⟨s.toArray⟩, .slice a' 0 c', .bool b] 41)); have ob : Only (fun _ => False) w wb := by rw [← hwb]; exact ((Only.refl _ w).alloc _).alloc _
 obtain ⟨bA, hbA⟩ := eX (w.heap.size); obtain ⟨bB, hbB⟩ := eX (bA + 1); have hx1 : wb.heap[bA]? = some (.cells #[.string ⟨s.toArray⟩, .slice a 0 c, .bool b] 41 (0, 0)) := by rw [← hwb, ← hbA]; exact heap_old (heap_new w _) _
 have hx2 : wb.heap[bB]? = some (.cells #[.string ⟨s.toArray⟩, .slice a' 0 c', .bool b] 41 (0, 0)) := by
  rw [← hwb, ← hbB, ← hbA]; have := heap_new (w.alloc (.cells #[.string ⟨s.toArray⟩, .slice a 0 c, .bool b] 41)) (.cells #[.string ⟨s.toArray⟩, .slice a' 0 c', .bool b] 41); rw [World.size_alloc] at this; exact this
 obtain ⟨c0, c1, c2, -⟩ := boxN3 hx1; obtain ⟨d0, d1, d2, -⟩ := boxN3 hx2; have HOB := hid ob; have HWB := hid hwb; have HBA := hid hbA; have HBB := hid hbB; have HX := hid (fun (wx : World) (ox : Only (fun _ => False) wb.drew wx) => have o := (Only.refl _ wb).drew.trans ox; And.intro (keepc o c1) (keepc o d1)); clear hx1 hx2 ob hwb hbA hbB
 go_enter Tryz.func24, Tryz.ntmps24
 go_upto_region 1 with (fail)
 rw [HWB.out, HBA.out, HBB.out]
 go_upto_region 3 with (fail)
 clear c0 c1 c2 d0 d1 d2; refine wp_region_steps 15 (by kernel_rfl) rfl (by kernel_rfl) [some 26, some 27, some 28, some 29, some 30, some 31, some 32, some 33, some 34, some 35, some 36, some 37, some 38, some 39, some 40] rfl rfl (fun _ => False) [(fun v _ => v = (.pointer (some ⟨bA, 1, none⟩))), (fun v _ => v = (.slice a 0 c)), (fun v _ => v = (.int .i64 0)), (fun v _ => v = (.bool true)), (fun v _ => v = (.bool true)), (fun v _ => v = undef), (fun v _ => v = undef), (fun v _ => v = undef), (fun v _ => v = undef), (fun v _ => v = undef), (fun v _ => v = undef), (fun v _ => v = undef), (fun v _ => v = undef), (fun v _ => v = undef), (fun v _ => v = (.bool true))] rfl ⟨?_, ?_, ?_, ?_, ?_, ?_, ?_, ?_, ?_, ?_, ?_, ?_, ?_, ?_, ?_, trivial⟩ _ rfl ⟨?_, ?_, ?_, ?_, ?_, ?_, ?_, ?_, ?_, ?_, ?_, ?_, ?_, ?_, ?_, trivial⟩ ?_
 iterate 15 exact Stable.is _ _
 ·intro x wx ox hN TT HTT; unfold StepTo; simp only [putAll, Act.put, zA, zB, zC]; clear hN
  go_wp2_with fail
  exact ⟨rfl, _, rfl, HTT.out _ _ rfl oR⟩
 ·intro x wx ox hN TT HTT; unfold StepTo; simp only [putAll, Act.put, zA, zB, zC, eI (hN.1 rfl)]; clear hN; obtain ⟨m1, m2⟩ := HX.out wx ox
  go_wp2_with fail
  exact ⟨rfl, _, rfl, HTT.out _ _ rfl oR⟩
 ·intro x wx ox hN TT HTT; unfold StepTo; simp only [putAll, Act.put, zA, zB, zC, eI (hN.1 rfl)]; clear hN
  go_wp2_with fail
  exact ⟨rfl, _, rfl, HTT.out _ _ rfl oR⟩
 ·intro x wx ox hN TT HTT; unfold StepTo; simp only [putAll, Act.put, zA, zB, zC, eI (hN.1 rfl)]; clear hN
  go_wp2_with fail
  exact ⟨rfl, _, rfl, HTT.out _ _ rfl oR⟩
 ·intro x wx ox hN TT HTT; unfold StepTo; simp only [putAll, Act.put, zA, zB, zC, eI (hN.1 rfl)]; clear hN
  go_wp2_with fail
  exact ⟨rfl, _, rfl, HTT.out _ _ rfl oR⟩
 ·intro x wx ox hN TT HTT; unfold StepTo; simp only [putAll, Act.put, zA, zB, zC, eI (hN.1 rfl)]; clear hN
  go_wp2_with fail
  exact ⟨rfl, _, rfl, HTT.out _ _ rfl oR⟩
 ·intro x wx ox hN TT HTT; unfold StepTo; simp only [putAll, Act.put, zA, zB, zC, eI (hN.1 rfl), eI (hN.2.1 rfl)]; clear hN
  go_wp2_with fail
  exact ⟨rfl, _, rfl, HTT.out _ _ rfl oR⟩
 ·intro x wx ox hN TT HTT; unfold StepTo; simp only [putAll, Act.put, zA, zB, zC, eI (hN.1 rfl), eI (hN.2.1 rfl)]; clear hN
  go_wp2_with fail
  exact ⟨rfl, _, rfl, HTT.out _ _ rfl oR⟩
 ·intro x wx ox hN TT HTT; unfold StepTo; simp only [putAll, Act.put, zA, zB, zC, eI (hN.1 rfl), eI (hN.2.1 rfl)]; clear hN
  go_wp2_with fail
  exact ⟨rfl, _, rfl, HTT.out _ _ rfl oR⟩
 ·intro x wx ox hN TT HTT; unfold StepTo; simp only [putAll, Act.put, zA, zB, zC, eI (hN.1 rfl)]; clear hN
  go_wp2_with fail
  exact ⟨rfl, _, rfl, HTT.out _ _ rfl oR⟩
 ·intro x wx ox hN TT HTT; unfold StepTo; simp only [putAll, Act.put, zA, zB, zC, eI (hN.1 rfl), eI (hN.2.1 rfl)]; clear hN
  go_wp2_with fail
  exact ⟨rfl, _, rfl, HTT.out _ _ rfl oR⟩
 ·intro x wx ox hN TT HTT; unfold StepTo; simp only [putAll, Act.put, zA, zB, zC, eI (hN.1 rfl), eI (hN.2.1 rfl)]; clear hN
  go_wp2_with fail
  exact ⟨rfl, _, rfl, HTT.out _ _ rfl oR⟩
 ·intro x wx ox hN TT HTT; unfold StepTo; simp only [putAll, Act.put, zA, zB, zC, eI (hN.1 rfl), eI (hN.2.1 rfl)]; clear hN
  go_wp2_with fail
  exact ⟨rfl, _, rfl, HTT.out _ _ rfl oR⟩
 ·intro x wx ox hN TT HTT; unfold StepTo; simp only [putAll, Act.put, zA, zB, zC, eI (hN.1 rfl), eI (hN.2.1 rfl), eI (hN.2.2.1 rfl)]; clear hN
  go_wp2_with fail
  exact ⟨rfl, _, rfl, HTT.out _ _ rfl oR⟩
 ·intro x wx ox hN TT HTT; unfold StepTo; simp only [putAll, Act.put, zA, zB, zC, eI (hN.1 rfl), eI (hN.2.1 rfl)]; clear hN
  go_wp2_with fail
  exact ⟨rfl, _, rfl, HTT.out _ _ rfl oR⟩
 intro xz wxz oxz hN; simp only [putAll, Act.put, zA, zB, zC, eI hN.1, eI hN.2.1, eI hN.2.2.1, eI hN.2.2.2.1, eI hN.2.2.2.2.1, eI hN.2.2.2.2.2.1, eI hN.2.2.2.2.2.2.1, eI hN.2.2.2.2.2.2.2.1, eI hN.2.2.2.2.2.2.2.2.1, eI hN.2.2.2.2.2.2.2.2.2.1, eI hN.2.2.2.2.2.2.2.2.2.2.1, eI hN.2.2.2.2.2.2.2.2.2.2.2.1, eI hN.2.2.2.2.2.2.2.2.2.2.2.2.1, eI hN.2.2.2.2.2.2.2.2.2.2.2.2.2.1, eI hN.2.2.2.2.2.2.2.2.2.2.2.2.2.2.1]; clear hN; have OZ := hid (HOB.out.trans ((Only.refl _ wb).drew.trans oxz)); clear oxz
 go_wp2_with fail
 go_ret
 exact ⟨rfl, OZ.out⟩
set_option maxRecDepth 100000 in
set_option maxHeartbeats 8000000 in
theorem sameT_ls2 (t u : TR) (R : Bool) (IH : ∀ (G G' : Nat → Prop) (w : World) (cs ds : List Value), CellsAt w G (trC t) cs → CellsAt w G' (trC u) ds →
  Calls Tryz.prog 24 #[.agg cs.toArray, .agg ds.toArray] w (fun e w' => e = .returned (.bool R) ∧ Only (fun _ => False) w w')) (b : Bool) (G G' : Nat → Prop) (w : World) (cs ds : List Value) (h : CellsAt w G (trC (.ls t b)) cs) (h' : CellsAt w G' (trC (.ls u b)) ds) :
  Calls Tryz.prog 24 #[.agg cs.toArray, .agg ds.toArray] w (fun e w' => e = .returned (.bool R) ∧ Only (fun _ => False) w w') := by
 obtain ⟨v, rfl, hv⟩ := tr_ls_cells h; obtain ⟨v', rfl, hv'⟩ := tr_ls_cells h'; have hv : CellAt w G (.row 3 ([t].map trC)) v := hv; have hv' : CellAt w G' (.row 3 ([u].map trC)) v' := hv'; obtain ⟨a, c, rfl, k1, k2, k3⟩ := rows_at hv; obtain ⟨a', c', rfl, k1', k2', k3'⟩ := rows_at hv'; obtain ⟨g, o, xs, rfl, -, q1, q2⟩ := k3 0 (by simp); obtain ⟨g', o', xs', rfl, -, q1', q2'⟩ := k3' 0 (by simp); have q2 : CellsAt w G (trC t) xs := q2; have q2' : CellsAt w G' (trC u) xs' := q2'; have hrec := fun (wx : World) (ox : Only (fun _ => False) w wx) => IH G G' wx _ _ (CellsAt.only ox (fun _ _ h => h) _ _ q2) (CellsAt.only ox (fun _ _ h => h) _ _ q2')
 obtain ⟨s1, a1, l1, c1, b1, rfl⟩ := trC_form2 q2; obtain ⟨s2, a2, l2, c2, b2, rfl⟩ := trC_form2 q2'; rw [Nat.zero_mul, Nat.add_zero] at q1 q1'; obtain ⟨e0, e1, e2⟩ := cells3_of q1; obtain ⟨f0, f1, f2⟩ := cells3_of q1'; simp only [List.length_cons, List.length_nil, Nat.zero_add] at k1 k1' ⊢; obtain ⟨wb, hwb⟩ := eX ((w.alloc (.cells #[.string ⟨#[]⟩, .slice (some ⟨g, o, none⟩) 1 c, .bool b] 41)).alloc (.cells #[.string ⟨#[]⟩, .slice (some ⟨g', o', none⟩) 1 c', .bool b] 41)); have ob : Only (fun _ => False) w wb := by rw [← hwb]; exact ((Only.refl _ w).alloc _).alloc _
 obtain ⟨bA, hbA⟩ := eX (w.heap.size); obtain ⟨bB, hbB⟩ := eX (bA + 1); have hx1 : wb.heap[bA]? = some (.cells #[.string ⟨#[]⟩, .slice (some ⟨g, o, none⟩) 1 c, .bool b] 41 (0, 0)) := by rw [← hwb, ← hbA]; exact heap_old (heap_new w _) _
 have hx2 : wb.heap[bB]? = some (.cells #[.string ⟨#[]⟩, .slice (some ⟨g', o', none⟩) 1 c', .bool b] 41 (0, 0)) := by
  rw [← hwb, ← hbB, ← hbA]; have := heap_new (w.alloc (.cells #[.string ⟨#[]⟩, .slice (some ⟨g, o, none⟩) 1 c, .bool b] 41)) (.cells #[.string ⟨#[]⟩, .slice (some ⟨g', o', none⟩) 1 c', .bool b] 41); rw [World.size_alloc] at this; exact this
 obtain ⟨c0, c1, c2, -⟩ := boxN3 hx1; obtain ⟨d0, d1, d2, -⟩ := boxN3 hx2; have HOB := hid ob; have HWB := hid hwb; have HBA := hid hbA; have HBB := hid hbB; have HX := hid (fun (wx : World) (ox : Only (fun _ => False) wb.drew wx) => have o := (Only.refl _ wb).drew.trans ox; have ow := ob.trans o; And.intro (keepc o c1) (And.intro (keepc o d1) (And.intro (keepc ow e0) (And.intro (keepc ow e1) (And.intro (keepc ow e2) (And.intro (keepc ow f0) (And.intro (keepc ow f1) (keepc ow f2)))))))); have HREC := hid (fun (wx : World) (ox : Only (fun _ => False) wb.drew wx) => hrec wx (ob.trans ((Only.refl _ wb).drew.trans ox))); clear hx1 hx2 ob hwb hbA hbB hrec e0 e1 e2 f0 f1 f2 q1 q1' q2 q2' k3 k3' hv hv' h h'
 go_enter Tryz.func24, Tryz.ntmps24
 go_upto_region 1 with (fail)
 rw [HWB.out, HBA.out, HBB.out]
 go_upto_region 3 with (fail)
 clear c0 c1 c2 d0 d1 d2; refine wp_region_steps 15 (by kernel_rfl) rfl (by kernel_rfl) [some 26, some 27, some 28, some 29, some 30, some 31, some 32, some 33, some 34, some 35, some 36, some 37, some 38, some 39, some 40] rfl rfl (fun _ => False) [(fun v _ => v = (.pointer (some ⟨bA, 1, none⟩))), (fun v _ => v = (.slice (some ⟨g, o, none⟩) 1 c)), (fun v _ => v = (.int .i64 1)), (fun v _ => v = (.bool false)), (fun v _ => v = (.bool false)), (fun v _ => v = (.pointer (some ⟨bA, 1, none⟩))), (fun v _ => v = (.slice (some ⟨g, o, none⟩) 1 c)), (fun v _ => v = (.pointer (some ⟨g, o, none⟩))), (fun v _ => v = (.agg #[.string ⟨s1.toArray⟩, .slice a1 l1 c1, .bool b1])), (fun v _ => v = (.pointer (some ⟨bB, 1, none⟩))), (fun v _ => v = (.slice (some ⟨g', o', none⟩) 1 c')), (fun v _ => v = (.pointer (some ⟨g', o', none⟩))), (fun v _ => v = (.agg #[.string ⟨s2.toArray⟩, .slice a2 l2 c2, .bool b2])), (fun v _ => v = (.bool R)), (fun v _ => v = (.bool R))] rfl ⟨?_, ?_, ?_, ?_, ?_, ?_, ?_, ?_, ?_, ?_, ?_, ?_, ?_, ?_, ?_, trivial⟩ _ rfl ⟨?_, ?_, ?_, ?_, ?_, ?_, ?_, ?_, ?_, ?_, ?_, ?_, ?_, ?_, ?_, trivial⟩ ?_
 iterate 15 exact Stable.is _ _
 ·intro x wx ox hN TT HTT; unfold StepTo; simp only [putAll, Act.put, zA, zB, zC]; clear hN
  go_wp2_with fail
  exact ⟨rfl, _, rfl, HTT.out _ _ rfl oR⟩
 ·intro x wx ox hN TT HTT; unfold StepTo; simp only [putAll, Act.put, zA, zB, zC, eI (hN.1 rfl)]; clear hN; obtain ⟨m1, m2, m3, m4, m5, m6, m7, m8⟩ := HX.out wx ox
  go_wp2_with fail
  exact ⟨rfl, _, rfl, HTT.out _ _ rfl oR⟩
 ·intro x wx ox hN TT HTT; unfold StepTo; simp only [putAll, Act.put, zA, zB, zC, eI (hN.1 rfl)]; clear hN
  go_wp2_with fail
  exact ⟨rfl, _, rfl, HTT.out _ _ rfl oR⟩
 ·intro x wx ox hN TT HTT; unfold StepTo; simp only [putAll, Act.put, zA, zB, zC, eI (hN.1 rfl)]; clear hN
  go_wp2_with fail
  exact ⟨rfl, _, rfl, HTT.out _ _ rfl oR⟩
 ·intro x wx ox hN TT HTT; unfold StepTo; simp only [putAll, Act.put, zA, zB, zC, eI (hN.1 rfl)]; clear hN
  go_wp2_with fail
  exact ⟨rfl, _, rfl, HTT.out _ _ rfl oR⟩
 ·intro x wx ox hN TT HTT; unfold StepTo; simp only [putAll, Act.put, zA, zB, zC, eI (hN.1 rfl)]; clear hN
  go_wp2_with fail
  exact ⟨rfl, _, rfl, HTT.out _ _ rfl oR⟩
 ·intro x wx ox hN TT HTT; unfold StepTo; simp only [putAll, Act.put, zA, zB, zC, eI (hN.1 rfl), eI (hN.2.1 rfl)]; clear hN; obtain ⟨m1, m2, m3, m4, m5, m6, m7, m8⟩ := HX.out wx ox
  go_wp2_with fail
  exact ⟨rfl, _, rfl, HTT.out _ _ rfl oR⟩
 ·intro x wx ox hN TT HTT; unfold StepTo; simp only [putAll, Act.put, zA, zB, zC, eI (hN.1 rfl), eI (hN.2.1 rfl)]; clear hN
  go_wp2_with fail
  exact ⟨rfl, _, rfl, HTT.out _ _ rfl oR⟩
 ·intro x wx ox hN TT HTT; unfold StepTo; simp only [putAll, Act.put, zA, zB, zC, eI (hN.1 rfl), eI (hN.2.1 rfl)]; clear hN; obtain ⟨m1, m2, m3, m4, m5, m6, m7, m8⟩ := HX.out wx ox
  go_wp2_with fail
  exact ⟨rfl, _, rfl, HTT.out _ _ rfl oR⟩
 ·intro x wx ox hN TT HTT; unfold StepTo; simp only [putAll, Act.put, zA, zB, zC, eI (hN.1 rfl)]; clear hN
  go_wp2_with fail
  exact ⟨rfl, _, rfl, HTT.out _ _ rfl oR⟩
 ·intro x wx ox hN TT HTT; unfold StepTo; simp only [putAll, Act.put, zA, zB, zC, eI (hN.1 rfl), eI (hN.2.1 rfl)]; clear hN; obtain ⟨m1, m2, m3, m4, m5, m6, m7, m8⟩ := HX.out wx ox
  go_wp2_with fail
  exact ⟨rfl, _, rfl, HTT.out _ _ rfl oR⟩
 ·intro x wx ox hN TT HTT; unfold StepTo; simp only [putAll, Act.put, zA, zB, zC, eI (hN.1 rfl), eI (hN.2.1 rfl)]; clear hN
  go_wp2_with fail
  exact ⟨rfl, _, rfl, HTT.out _ _ rfl oR⟩
 ·intro x wx ox hN TT HTT; unfold StepTo; simp only [putAll, Act.put, zA, zB, zC, eI (hN.1 rfl), eI (hN.2.1 rfl)]; clear hN; obtain ⟨m1, m2, m3, m4, m5, m6, m7, m8⟩ := HX.out wx ox
  go_wp2_with fail
  exact ⟨rfl, _, rfl, HTT.out _ _ rfl oR⟩
 ·intro x wx ox hN TT HTT; unfold StepTo; simp only [putAll, Act.put, zA, zB, zC, eI (hN.1 rfl), eI (hN.2.1 rfl), eI (hN.2.2.1 rfl)]; clear hN; have ht := HREC.out wx ox; have HT := hid ht; clear ht
  go_wp2_with fail
  refine HT.out.mono ?_
  rintro e w6 ⟨rfl, o6⟩; have O6 := hid o6; clear o6
  go_wp2_with fail
  exact ⟨rfl, _, rfl, HTT.out _ _ rfl (O6.out)⟩
 ·intro x wx ox hN TT HTT; unfold StepTo; simp only [putAll, Act.put, zA, zB, zC, eI (hN.1 rfl), eI (hN.2.1 rfl)]; clear hN
  go_wp2_with fail
  exact ⟨rfl, _, rfl, HTT.out _ _ rfl oR⟩
 intro xz wxz oxz hN; simp only [putAll, Act.put, zA, zB, zC, eI hN.1, eI hN.2.1, eI hN.2.2.1, eI hN.2.2.2.1, eI hN.2.2.2.2.1, eI hN.2.2.2.2.2.1, eI hN.2.2.2.2.2.2.1, eI hN.2.2.2.2.2.2.2.1, eI hN.2.2.2.2.2.2.2.2.1, eI hN.2.2.2.2.2.2.2.2.2.1, eI hN.2.2.2.2.2.2.2.2.2.2.1, eI hN.2.2.2.2.2.2.2.2.2.2.2.1, eI hN.2.2.2.2.2.2.2.2.2.2.2.2.1, eI hN.2.2.2.2.2.2.2.2.2.2.2.2.2.1, eI hN.2.2.2.2.2.2.2.2.2.2.2.2.2.2.1]; clear hN; have OZ := hid (HOB.out.trans ((Only.refl _ wb).drew.trans oxz)); clear oxz
 go_wp2_with fail
 go_ret
 exact ⟨rfl, OZ.out⟩
set_option maxRecDepth 100000 in
set_option maxHeartbeats 8000000 in
theorem sameT_no (s s' : List UInt8) (a a' : Option Addr) (l l' c c' : Nat) (b b' : Bool) (hd : s ≠ s' ∨ b ≠ b' ∨ l ≠ l') (w : World) :
  Calls Tryz.prog 24 #[.agg #[.string ⟨s.toArray⟩, .slice a l c, .bool b], .agg #[.string ⟨s'.toArray⟩, .slice a' l' c', .bool b']] w (fun e w' => e = .returned (.bool false) ∧ Only (fun _ => False) w w') := by
 obtain ⟨wb, hwb⟩ := eX ((w.alloc (.cells #[.string ⟨s.toArray⟩, .slice a l c, .bool b] 41)).alloc (.cells #[.string ⟨s'.toArray⟩, .slice a' l' c', .bool b'] 41)); have ob : Only (fun _ => False) w wb := by rw [← hwb]; exact ((Only.refl _ w).alloc _).alloc _
 obtain ⟨bA, hbA⟩ := eX (w.heap.size); obtain ⟨bB, hbB⟩ := eX (bA + 1); have hx1 : wb.heap[bA]? = some (.cells #[.string ⟨s.toArray⟩, .slice a l c, .bool b] 41 (0, 0)) := by rw [← hwb, ← hbA]; exact heap_old (heap_new w _) _
 have hx2 : wb.heap[bB]? = some (.cells #[.string ⟨s'.toArray⟩, .slice a' l' c', .bool b'] 41 (0, 0)) := by
  rw [← hwb, ← hbB, ← hbA]; have := heap_new (w.alloc (.cells #[.string ⟨s.toArray⟩, .slice a l c, .bool b] 41)) (.cells #[.string ⟨s'.toArray⟩, .slice a' l' c', .bool b'] 41); rw [World.size_alloc] at this; exact this
 obtain ⟨c0, c1, c2, -⟩ := boxN3 hx1; obtain ⟨d0, d1, d2, -⟩ := boxN3 hx2; have HOB := hid ob; have HWB := hid hwb; have HBA := hid hbA; have HBB := hid hbB; clear hx1 hx2 ob hwb hbA hbB
 by_cases h1 : s = s'
 ·subst h1
  by_cases h2 : b = b'
  ·subst h2; have h3 : l ≠ l' := by
    rcases hd with h | h | h
    ·exact absurd rfl h
    ·exact absurd rfl h
    ·exact h
   have t3 : ((l : Int) != (l' : Int)) = true := by simp; omega
   have t4 : ((l : Int) == (l' : Int)) = false := by simp; omega
   clear hd h3
   go_enter Tryz.func24, Tryz.ntmps24
   go_upto_region 1 with (fail)
   rw [HWB.out, HBA.out, HBB.out]
   go_wp2_with fail
   clear c0 c1 c2 d0 d1 d2
   go_ret
   exact ⟨rfl, HOB.out⟩
  ·clear hd
   cases b <;> cases b'
   ·exact absurd rfl h2
   ·clear h2
    go_enter Tryz.func24, Tryz.ntmps24
    go_upto_region 1 with (fail)
    rw [HWB.out, HBA.out, HBB.out]
    go_wp2_with fail
    clear c0 c1 c2 d0 d1 d2
    go_ret
    exact ⟨rfl, HOB.out⟩
   ·clear h2
    go_enter Tryz.func24, Tryz.ntmps24
    go_upto_region 1 with (fail)
    rw [HWB.out, HBA.out, HBB.out]
    go_wp2_with fail
    clear c0 c1 c2 d0 d1 d2
    go_ret
    exact ⟨rfl, HOB.out⟩
   ·exact absurd rfl h2
 ·go_enter Tryz.func24, Tryz.ntmps24
  go_upto_region 1 with (fail)
  rw [HWB.out, HBA.out, HBB.out]; clear hd; have z1 : (s == s') = false := by simpa using h1
  have z2 : (s != s') = true := by simpa using h1
  go_wp2_with fail
  clear c0 c1 c2 d0 d1 d2
  go_ret
  exact ⟨rfl, HOB.out⟩
theorem sameT_any : ∀ (t u : TR) (G G' : Nat → Prop) (w : World) (cs ds : List Value), CellsAt w G (trC t) cs → CellsAt w G' (trC u) ds →
  Calls Tryz.prog 24 #[.agg cs.toArray, .agg ds.toArray] w (fun e w' => e = .returned (.bool (trSame t u)) ∧ Only (fun _ => False) w w')
 | t, u, G, G', w, cs, ds, h, h' => by
  by_cases hd : trN t ≠ trN u ∨ trB t ≠ trB u ∨ trL t ≠ trL u
  ·rw [trSame_no hd]; obtain ⟨a, c, rfl⟩ := tr_any h; obtain ⟨a', c', rfl⟩ := tr_any h'; exact sameT_no _ _ _ _ _ _ _ _ _ _ hd w
  ·match t, u, h, h', hd with
   | .nm s b, .nm s' b', h, h', hd =>
    have e1 : s = s' := Classical.byContradiction fun e => hd (.inl e)
    have e2 : b = b' := Classical.byContradiction fun e => hd (.inr (.inl e))
    subst e1; subst e2; rw [(trSame_iff _ _).2 rfl]; exact sameT_nm2 s b G G' w cs ds h h'
   | .ls t b, .ls t' b', h, h', hd =>
    have e2 : b = b' := Classical.byContradiction fun e => hd (.inr (.inl e))
    subst e2; rw [show trSame (.ls t b) (.ls t' b) = trSame t t' by simp [trSame]]; exact sameT_ls2 t t' (trSame t t') (fun G G' w cs ds h h' => sameT_any t t' G G' w cs ds h h') b G G' w cs ds h h'
   | .nm s b, .ls t b', h, h', hd => exact absurd (.inr (.inr (by simp [trL]))) hd
   | .ls t b, .nm s b', h, h', hd => exact absurd (.inr (.inr (by simp [trL]))) hd
end Go.Proofs.YtnkpoddbbdmipaaGreatDoor
