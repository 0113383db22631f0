/- . -/
import Derived.Test.YtnkpoddbbdmipaaGreatDoorTTyPpf
import Derived.Test.YtnkpoddbbdmipaaGreatDoorTTyPrh
namespace Go.Proofs.YtnkpoddbbdmipaaGreatDoor
open Go Go.RowKit
open Go.Lib (hid)
set_option linter.unusedVariables false
set_option linter.unusedSimpArgs false
theorem njoin_any (ns : List (List UInt8)) (G : Nat → Prop) (w : World) (a : Option Addr) (c : Nat) (gap : List UInt8) (hg : 1 ≤ gap.length) (h : CellAt w G (.row 1 (ns.map fun s => [strC s])) (.slice a ns.length c)) (hl : (Lib.join ns gap).length ≤ 1000000000000) :
  Calls Tryz.prog 48 #[.slice a ns.length c, .string ⟨gap.toArray⟩] w (fun e w' => e = .returned (.string ⟨(Lib.join ns gap).toArray⟩) ∧ Only (fun _ => False) w w') := by
 obtain ⟨a', c', e, k1, k2, k3⟩ := rows_at h
 injection e with e1 e2 e3; subst e1; subst e3
 by_cases h0 : ns = []
 ·subst h0; exact (Tryz.strings_Join_none a c ⟨gap.toArray⟩ w).mono (fun e w' h => by obtain ⟨rfl, rfl⟩ := h; exact ⟨rfl, oR⟩)
 ·have hpos : 0 < ns.length := List.length_pos_iff.2 h0
  generalize ns = xs at *
  have hn := join_few hg xs hl; obtain ⟨g, o, cs, rfl, -, q1, q2⟩ := k3 0 hpos; have hall : ∀ i (hi : i < xs.length), w.cell? ⟨g, o + i, none⟩ = some (.string ⟨(xs[i]).toArray⟩) := fun i hi => by
   obtain ⟨g', o', cs, e, -, q1, q2⟩ := k3 i hi
   injection e with e; injection e with e1 e2; subst e1; subst e2
   have := str_cell q2; subst this; have := q1 0 _ rfl; rw [Nat.mul_one, Nat.add_zero] at this; exact this
  have hgw : g < w.heap.size := cell_lt (hall 0 hpos); have hlen2 : ((xs.map fun z => (⟨z.toArray⟩ : ByteArray)).length) = xs.length := List.length_map _; have hdat : (xs.map fun z => (⟨z.toArray⟩ : ByteArray)).map (·.data.toList) = xs := by rw [List.map_map]; exact (List.map_congr_left (fun z _ => rfl)).trans (List.map_id _)
  have J := Tryz.strings_Join g o c (xs.map fun z => (⟨z.toArray⟩ : ByteArray)) ⟨gap.toArray⟩ w (fun j x hj => by
   rw [List.getElem?_map] at hj
   cases hq : xs[j]? with
   | none => rw [hq] at hj; cases hj
   | some z =>
    rw [hq] at hj; injection hj with hj; subst hj; obtain ⟨hi, e⟩ := List.getElem?_eq_some_iff.1 hq
    rw [hall j hi, e]) hgw (by rw [hlen2]; omega) (by rw [hlen2]; omega) (by rw [hdat]; show (Lib.join _ gap).length ≤ _; omega)
  rw [hlen2, hdat] at J; exact J.mono (fun e w' h => ⟨h.1, Only.ofBelow h.2 _⟩)
theorem nms_join (g : List It) (ns : List (List UInt8)) : ren (sepI g (nmsI ns)) = Lib.join ns (ren g) := by
 rw [sep_join]; unfold nmsI; rw [List.map_map]
 congr 1
 exact (List.map_congr_left (fun s _ => by show ren [nmI s] = s; rw [ren_cons, ren_nil, List.append_nil]; rfl)).trans (List.map_id _)
theorem fld_join {fs : List FD} (h : fs ≠ []) : [32, 123] ++ fldB fs fs.length ++ [32, 125] = [32, 123, 32] ++ Lib.join (fs.map fun f => ren (fdI f)) [32] ++ [32, 125] := by
 unfold fldB; rw [List.take_length, show (fs.flatMap fun f => 32 :: ren (fdI f)) = fs.flatMap (fun x => [32] ++ (fun f => ren (fdI f)) x) from rfl, flat_join _ _ _ h]; simp
def WellTQ (t : TD) : Prop := (t.kind = 1 ∧ t.fields ≠ [] ∨ (t.kind = 2 ∧ t.names = [] ∧ t.fields ≠ []) ∨ t.kind = 3 ∨ t.kind = 4 ∨ (t.kind = 5 ∧ t.names = [] ∧ t.fields ≠ [])) ∧ ∀ f ∈ t.fields, WellFQ f
set_option maxRecDepth 100000 in
set_option maxHeartbeats 64000000 in
theorem ppT1_any (t : TD) (hw : WellTQ t) (G : Nat → Prop) (w : World) (cs : List Value) (h : CellsAt w G (tdC t) cs) (ht : Tab w) (hl : (ren (tdI t)).length ≤ 1000000000000) :
  Calls Tryz.prog 64 #[.agg cs.toArray] w (fun e w' => e = .returned (.string ⟨(ren (tdI t)).toArray⟩) ∧ Only (fun _ => False) w w') := by
 obtain ⟨kk, nm, fs, ns⟩ := t; obtain ⟨fv, nv, rfl, hf, hn⟩ := td_cells h; obtain ⟨hkk, hwf⟩ := hw; obtain ⟨af, cf, rfl, fk1, fk2, -⟩ := rows_at hf; obtain ⟨an, cn, rfl, nk1, nk2, -⟩ := rows_at hn; simp only at hkk hwf fk1 fk2 nk1 nk2 hf hn; have JN := fun (wx : World) (ox : Only (fun _ => False) w wx) (gap : List UInt8) (hg : 1 ≤ gap.length) (hj : (Lib.join ns gap).length ≤ 1000000000000) => njoin_any ns G wx an cn gap hg (CellAt.only ox (fun _ _ h => h) _ _ hn) hj
 have JF := fun (wx : World) (ox : Only (fun _ => False) w wx) (hj : (Lib.join (fs.map fun f => ren (fdI f)) [32]).length ≤ 1000000000000) => pjoinF_any fs (fun f => ren (fdI f)) G wx (.slice af fs.length cf) [32] (by decide) (CellAt.only ox (fun _ _ h => h) _ _ hf) (fun j hj' wy cs oy hcs => ppF_any _ (hwf _ (List.getElem_mem hj')) G wy cs hcs (ht.still (ox.trans oy)) (Nat.le_trans (join_part (fun f => ren (fdI f)) [32] fs j hj') hj)) hj
 obtain ⟨LF, hLF⟩ := eX (fs.length); obtain ⟨LN, hLN⟩ := eX (ns.length); have hln : ns = [] → LN = 0 := fun e => by rw [← hLN, e]; rfl
 have hlp : ns ≠ [] → 0 < LN := fun e => by rw [← hLN]; exact List.length_pos_iff.2 e
 rw [hLF] at JF fk1; rw [hLN] at JN nk1; simp only [hLF, hLN]; clear h hf hn hwf hLF hLN ht; obtain ⟨bA, hbA⟩ := eX (w.heap.size)
 rcases hkk with ⟨hk, hfs⟩ | ⟨hk, hns, hfs⟩ | hk | hk | ⟨hk, hns, hfs⟩
 ·subst hk
  by_cases hns : ns = []
  ·have hr : ren (tdI ⟨1, nm, fs, ns⟩) = [116, 121, 112, 101, 32] ++ nm ++ [32, 123, 32] ++ Lib.join (fs.map fun f => ren (fdI f)) [32] ++ [32, 125] := by
    rw [td_ren1b nm fs ns hns, fld_join hfs]; subst hns; simp [nmsI, sepI, ren]
   obtain ⟨jf, hjf⟩ := eX (Lib.join (fs.map fun f => ren (fdI f)) [32]); obtain ⟨jn, hjn⟩ := eX (Lib.join ns [32, 38, 32]); rw [hjf] at hr; obtain ⟨R, hR⟩ := eX (ren (tdI ⟨1, nm, fs, ns⟩)); rw [hR] at hr hl ⊢; have hll : 5 + nm.length + 3 + jf.length + 2 ≤ 1000000000000 := by
    rw [hr] at hl; simp only [List.length_append, List.length_cons, List.length_nil] at hl; omega
   obtain ⟨wb, hwb⟩ := eX (w.alloc (.cells #[.int .u8 1, .string ⟨nm.toArray⟩, .slice af LF cf, .slice an LN cn] 99)); have ob : Only (fun _ => False) w wb := by rw [← hwb]; exact (Only.refl _ w).alloc _
   have hx1 : wb.heap[bA]? = some (.cells #[.int .u8 1, .string ⟨nm.toArray⟩, .slice af LF cf, .slice an LN cn] 99 (0, 0)) := by rw [← hwb, ← hbA]; exact heap_new w _
   obtain ⟨q0, q1, q2, q3, -⟩ := boxN4 hx1; have HX1 := hid hx1; have HOB := hid ob; have HWB := hid hwb; have HBA := hid hbA; have JF1 := fun wx ox => JF wx ox (by rw [hjf]; omega)
   rw [hjf] at JF1; have HJF := hid JF1; have hp := hln hns; subst hp; have hcat : ((({ data := #[116, 121, 112, 101, 32] } ++ ⟨nm.toArray⟩) ++ { data := #[32, 123, 32] } ++ ⟨jf.toArray⟩ ++ { data := #[32, 125] } : ByteArray)) = ⟨R.toArray⟩ := by
    rw [hr]; simp only [← cat_list]
   have HCAT := hid hcat; clear hx1 ob hwb hbA hl hr hR hjn hjf JF1 JN JF hcat hln hlp hfs hns
   go_enter Tryz.func64, Tryz.ntmps64
   go_upto_region 1 with (fail)
   rw [HWB.out, HBA.out]; clear HWB HBA; have HO2 := HOB; have J := hid (HJF.out wb HOB.out)
   go_wp2_with fail
   refine J.out.mono ?_
   rintro e w3 ⟨rfl, o3⟩; have HO3 := hid (HO2.out.trans o3); clear o3 J q0 q1 q2 q3
   go_wp2_with fail
   go_ret
   rw [HCAT.out]; exact ⟨rfl, HO3.out⟩
  ·have hr : ren (tdI ⟨1, nm, fs, ns⟩) = [116, 121, 112, 101, 32] ++ nm ++ [32, 105, 109, 112, 108, 101, 109, 101, 110, 116, 115, 32] ++ Lib.join ns [32, 38, 32] ++ [32, 123, 32] ++ Lib.join (fs.map fun f => ren (fdI f)) [32] ++ [32, 125] := by
    rw [td_ren1a nm fs ns hns, fld_join hfs, nms_join]; simp [ren, It.src, sgI]
   obtain ⟨jf, hjf⟩ := eX (Lib.join (fs.map fun f => ren (fdI f)) [32]); obtain ⟨jn, hjn⟩ := eX (Lib.join ns [32, 38, 32]); rw [hjf, hjn] at hr; obtain ⟨R, hR⟩ := eX (ren (tdI ⟨1, nm, fs, ns⟩)); rw [hR] at hr hl ⊢; have hll : 5 + nm.length + 12 + jn.length + 3 + jf.length + 2 ≤ 1000000000000 := by
    rw [hr] at hl; simp only [List.length_append, List.length_cons, List.length_nil] at hl; omega
   obtain ⟨wb, hwb⟩ := eX (w.alloc (.cells #[.int .u8 1, .string ⟨nm.toArray⟩, .slice af LF cf, .slice an LN cn] 99)); have ob : Only (fun _ => False) w wb := by rw [← hwb]; exact (Only.refl _ w).alloc _
   have hx1 : wb.heap[bA]? = some (.cells #[.int .u8 1, .string ⟨nm.toArray⟩, .slice af LF cf, .slice an LN cn] 99 (0, 0)) := by rw [← hwb, ← hbA]; exact heap_new w _
   obtain ⟨q0, q1, q2, q3, -⟩ := boxN4 hx1; have HX1 := hid hx1; have HOB := hid ob; have HWB := hid hwb; have HBA := hid hbA; have JF1 := fun wx ox => JF wx ox (by rw [hjf]; omega)
   rw [hjf] at JF1; have HJF := hid JF1; have JN1 := fun wx ox => JN wx ox [32, 38, 32] (by decide) (by rw [hjn]; omega)
   rw [hjn] at JN1; have HJN := hid JN1; clear JN1; have hp := hlp hns; have t2 : decide ((LN : Int) > 0) = true := decide_eq_true (by omega); have hcat : (((({ data := #[116, 121, 112, 101, 32] } ++ ⟨nm.toArray⟩) ++ ({ data := #[32, 105, 109, 112, 108, 101, 109, 101, 110, 116, 115, 32] } ++ ⟨jn.toArray⟩)) ++ { data := #[32, 123, 32] } ++ ⟨jf.toArray⟩ ++ { data := #[32, 125] } : ByteArray)) = ⟨R.toArray⟩ := by
    rw [hr]; simp only [← cat_list]; simp only [ByteArray.append_assoc]
   have HCAT := hid hcat; clear hx1 ob hwb hbA hl hr hR hjn hjf JF1 JN JF hcat hln hlp hfs hns
   go_enter Tryz.func64, Tryz.ntmps64
   go_upto_region 1 with (fail)
   rw [HWB.out, HBA.out]; clear HWB HBA; have J := hid (HJN.out wb HOB.out)
   go_wp2_with fail
   refine J.out.mono ?_
   rintro e w2 ⟨rfl, o2⟩; have HO2 := hid (HOB.out.trans o2); have q0 := keepc o2 q0; have q1 := keepc o2 q1; have q2 := keepc o2 q2; have q3 := keepc o2 q3; clear o2 J; have J := hid (HJF.out w2 HO2.out)
   go_wp2_with fail
   refine J.out.mono ?_
   rintro e w3 ⟨rfl, o3⟩; have HO3 := hid (HO2.out.trans o3); clear o3 J q0 q1 q2 q3
   go_wp2_with fail
   go_ret
   rw [HCAT.out]; exact ⟨rfl, HO3.out⟩
 ·subst hk; have hr : ren (tdI ⟨2, nm, fs, ns⟩) = [105, 110, 116, 101, 114, 102, 97, 99, 101, 32] ++ nm ++ [32, 123, 32] ++ Lib.join (fs.map fun f => ren (fdI f)) [32] ++ [32, 125] := by
   rw [td_ren2 nm fs ns hns, fld_join hfs]; subst hns; simp [nmsI, sepI, ren]
  obtain ⟨jf, hjf⟩ := eX (Lib.join (fs.map fun f => ren (fdI f)) [32]); obtain ⟨jn, hjn⟩ := eX (Lib.join ns [32, 38, 32]); rw [hjf] at hr; obtain ⟨R, hR⟩ := eX (ren (tdI ⟨2, nm, fs, ns⟩)); rw [hR] at hr hl ⊢; have hll : 10 + nm.length + 3 + jf.length + 2 ≤ 1000000000000 := by
   rw [hr] at hl; simp only [List.length_append, List.length_cons, List.length_nil] at hl; omega
  obtain ⟨wb, hwb⟩ := eX (w.alloc (.cells #[.int .u8 2, .string ⟨nm.toArray⟩, .slice af LF cf, .slice an LN cn] 99)); have ob : Only (fun _ => False) w wb := by rw [← hwb]; exact (Only.refl _ w).alloc _
  have hx1 : wb.heap[bA]? = some (.cells #[.int .u8 2, .string ⟨nm.toArray⟩, .slice af LF cf, .slice an LN cn] 99 (0, 0)) := by rw [← hwb, ← hbA]; exact heap_new w _
  obtain ⟨q0, q1, q2, q3, -⟩ := boxN4 hx1; have HX1 := hid hx1; have HOB := hid ob; have HWB := hid hwb; have HBA := hid hbA; have JF1 := fun wx ox => JF wx ox (by rw [hjf]; omega)
  rw [hjf] at JF1; have HJF := hid JF1; have hcat : ((({ data := #[105, 110, 116, 101, 114, 102, 97, 99, 101, 32] } ++ ⟨nm.toArray⟩) ++ { data := #[32, 123, 32] } ++ ⟨jf.toArray⟩ ++ { data := #[32, 125] } : ByteArray)) = ⟨R.toArray⟩ := by
   rw [hr]; simp only [← cat_list]
  have HCAT := hid hcat; clear hx1 ob hwb hbA hl hr hR hjn hjf JF1 JN JF hcat hln hlp hfs hns
  go_enter Tryz.func64, Tryz.ntmps64
  go_upto_region 1 with (fail)
  rw [HWB.out, HBA.out]; clear HWB HBA; have HO2 := HOB; have J := hid (HJF.out wb HOB.out)
  go_wp2_with fail
  refine J.out.mono ?_
  rintro e w3 ⟨rfl, o3⟩; have HO3 := hid (HO2.out.trans o3); clear o3 J q0 q1 q2 q3
  go_wp2_with fail
  go_ret
  rw [HCAT.out]; exact ⟨rfl, HO3.out⟩
 ·subst hk; have hr : ren (tdI ⟨3, nm, fs, ns⟩) = [117, 110, 105, 111, 110, 32] ++ nm ++ [32, 61, 32] ++ Lib.join ns [32, 124, 32] := by
   rw [td_ren3 nm fs ns trivial, nms_join]; simp [ren, It.src, sgI]
  obtain ⟨jn, hjn⟩ := eX (Lib.join ns [32, 124, 32]); rw [hjn] at hr; obtain ⟨R, hR⟩ := eX (ren (tdI ⟨3, nm, fs, ns⟩)); rw [hR] at hr hl ⊢; have hll : 6 + nm.length + 3 + jn.length + 0 ≤ 1000000000000 := by
   rw [hr] at hl; simp only [List.length_append, List.length_cons, List.length_nil] at hl; omega
  obtain ⟨wb, hwb⟩ := eX (w.alloc (.cells #[.int .u8 3, .string ⟨nm.toArray⟩, .slice af LF cf, .slice an LN cn] 99)); have ob : Only (fun _ => False) w wb := by rw [← hwb]; exact (Only.refl _ w).alloc _
  have hx1 : wb.heap[bA]? = some (.cells #[.int .u8 3, .string ⟨nm.toArray⟩, .slice af LF cf, .slice an LN cn] 99 (0, 0)) := by rw [← hwb, ← hbA]; exact heap_new w _
  obtain ⟨q0, q1, q2, q3, -⟩ := boxN4 hx1; have HX1 := hid hx1; have HOB := hid ob; have HWB := hid hwb; have HBA := hid hbA; have JN1 := fun wx ox => JN wx ox [32, 124, 32] (by decide) (by rw [hjn]; omega)
  rw [hjn] at JN1; have hcat : (({ data := #[117, 110, 105, 111, 110, 32] } ++ ⟨nm.toArray⟩ ++ { data := #[32, 61, 32] } ++ ⟨jn.toArray⟩ : ByteArray)) = ⟨R.toArray⟩ := by
   rw [hr]; simp only [← cat_list]
  have HCAT := hid hcat; have HJ0 := hid JN1; have HJN := hid (fun (wx : World) (ox : Only (fun _ => False) wb.drew wx) => HJ0.out wx (HOB.out.trans ((Only.refl _ wb).drew.trans ox))); have HX := hid (fun (wx : World) (ox : Only (fun _ => False) wb.drew wx) => have o := (Only.refl _ wb).drew.trans ox; And.intro (keepc o q1) (keepc o q3)); clear hx1 ob hwb hbA hl hr hR hjn JN1 JN JF hcat hln hlp q1 q3
  go_enter Tryz.func64, Tryz.ntmps64
  go_upto_region 1 with (fail)
  rw [HWB.out, HBA.out]; clear HWB HBA
  go_upto_region 3 with (fail)
  clear q0 q2; refine wp_region_steps 8 (by kernel_rfl) rfl (by kernel_rfl) [some 8, some 9, some 10, some 11, some 12, some 13, some 14, some 15] rfl rfl (fun _ => False) [(fun v _ => v = (.pointer (some ⟨bA, 1, none⟩))), (fun v _ => v = (.string ⟨nm.toArray⟩)), (fun v _ => v = (.string ({ data := #[117, 110, 105, 111, 110, 32] } ++ ⟨nm.toArray⟩))), (fun v _ => v = (.string ({ data := #[117, 110, 105, 111, 110, 32] } ++ ⟨nm.toArray⟩ ++ { data := #[32, 61, 32] }))), (fun v _ => v = (.pointer (some ⟨bA, 3, none⟩))), (fun v _ => v = (.slice an LN cn)), (fun v _ => v = (.string ⟨jn.toArray⟩)), (fun v _ => v = (.string ({ data := #[117, 110, 105, 111, 110, 32] } ++ ⟨nm.toArray⟩ ++ { data := #[32, 61, 32] } ++ ⟨jn.toArray⟩)))] rfl ⟨?_, ?_, ?_, ?_, ?_, ?_, ?_, ?_, trivial⟩ _ rfl ⟨?_, ?_, ?_, ?_, ?_, ?_, ?_, ?_, trivial⟩ ?_
  iterate 8 exact Stable.is _ _
  ·intro x wx ox hN TT HTT; unfold StepTo; simp only [putAll, Act.put, zA, zB, zC]; clear hN
   go_wp2_with fail
   exact ⟨rfl, _, rfl, HTT.out _ _ rfl oR⟩
  ·intro x wx ox hN TT HTT; unfold StepTo; simp only [putAll, Act.put, zA, zB, zC, eI (hN.1 rfl)]; clear hN; obtain ⟨m1, m3⟩ := HX.out wx ox
   go_wp2_with fail
   exact ⟨rfl, _, rfl, HTT.out _ _ rfl oR⟩
  ·intro x wx ox hN TT HTT; unfold StepTo; simp only [putAll, Act.put, zA, zB, zC, eI (hN.1 rfl)]; clear hN
   go_wp2_with fail
   exact ⟨rfl, _, rfl, HTT.out _ _ rfl oR⟩
  ·intro x wx ox hN TT HTT; unfold StepTo; simp only [putAll, Act.put, zA, zB, zC, eI (hN.1 rfl)]; clear hN
   go_wp2_with fail
   exact ⟨rfl, _, rfl, HTT.out _ _ rfl oR⟩
  ·intro x wx ox hN TT HTT; unfold StepTo; simp only [putAll, Act.put, zA, zB, zC]; clear hN
   go_wp2_with fail
   exact ⟨rfl, _, rfl, HTT.out _ _ rfl oR⟩
  ·intro x wx ox hN TT HTT; unfold StepTo; simp only [putAll, Act.put, zA, zB, zC, eI (hN.1 rfl)]; clear hN; obtain ⟨m1, m3⟩ := HX.out wx ox
   go_wp2_with fail
   exact ⟨rfl, _, rfl, HTT.out _ _ rfl oR⟩
  ·intro x wx ox hN TT HTT; unfold StepTo; simp only [putAll, Act.put, zA, zB, zC, eI (hN.1 rfl)]; clear hN; have ht := HJN.out wx ox; have HT := hid ht; clear ht
   go_wp2_with fail
   refine HT.out.mono ?_
   rintro e w6 ⟨rfl, o6⟩; have O6 := hid o6; clear o6
   go_wp2_with fail
   exact ⟨rfl, _, rfl, HTT.out _ _ rfl (O6.out)⟩
  ·intro x wx ox hN TT HTT; unfold StepTo; simp only [putAll, Act.put, zA, zB, zC, eI (hN.1 rfl), eI (hN.2.1 rfl)]; clear hN
   go_wp2_with fail
   exact ⟨rfl, _, rfl, HTT.out _ _ rfl oR⟩
  intro xz wxz oxz hN; simp only [putAll, Act.put, zA, zB, zC, eI hN.1, eI hN.2.1, eI hN.2.2.1, eI hN.2.2.2.1, eI hN.2.2.2.2.1, eI hN.2.2.2.2.2.1, eI hN.2.2.2.2.2.2.1, eI hN.2.2.2.2.2.2.2.1]; clear hN; have OZ := hid ((Only.refl _ wb).drew.trans oxz); clear oxz
  go_wp2_with fail
  go_ret
  rw [HCAT.out]; exact ⟨rfl, HOB.out.trans OZ.out⟩
 ·subst hk; have hr : ren (tdI ⟨4, nm, fs, ns⟩) = [101, 110, 117, 109, 32] ++ nm ++ [32, 123, 32] ++ Lib.join ns [32] ++ [32, 125] := by
   rw [td_ren4 nm fs ns trivial, nms_join]; rfl
  obtain ⟨jn, hjn⟩ := eX (Lib.join ns [32]); rw [hjn] at hr; obtain ⟨R, hR⟩ := eX (ren (tdI ⟨4, nm, fs, ns⟩)); rw [hR] at hr hl ⊢; have hll : 5 + nm.length + 3 + jn.length + 2 ≤ 1000000000000 := by
   rw [hr] at hl; simp only [List.length_append, List.length_cons, List.length_nil] at hl; omega
  obtain ⟨wb, hwb⟩ := eX (w.alloc (.cells #[.int .u8 4, .string ⟨nm.toArray⟩, .slice af LF cf, .slice an LN cn] 99)); have ob : Only (fun _ => False) w wb := by rw [← hwb]; exact (Only.refl _ w).alloc _
  have hx1 : wb.heap[bA]? = some (.cells #[.int .u8 4, .string ⟨nm.toArray⟩, .slice af LF cf, .slice an LN cn] 99 (0, 0)) := by rw [← hwb, ← hbA]; exact heap_new w _
  obtain ⟨q0, q1, q2, q3, -⟩ := boxN4 hx1; have HX1 := hid hx1; have HOB := hid ob; have HWB := hid hwb; have HBA := hid hbA; have JN1 := fun wx ox => JN wx ox [32] (by decide) (by rw [hjn]; omega)
  rw [hjn] at JN1; have hcat : (({ data := #[101, 110, 117, 109, 32] } ++ ⟨nm.toArray⟩ ++ { data := #[32, 123, 32] } ++ ⟨jn.toArray⟩ ++ { data := #[32, 125] } : ByteArray)) = ⟨R.toArray⟩ := by
   rw [hr]; simp only [← cat_list]
  have HCAT := hid hcat; have HJ0 := hid JN1; have HJN := hid (fun (wx : World) (ox : Only (fun _ => False) wb.drew wx) => HJ0.out wx (HOB.out.trans ((Only.refl _ wb).drew.trans ox))); have HX := hid (fun (wx : World) (ox : Only (fun _ => False) wb.drew wx) => have o := (Only.refl _ wb).drew.trans ox; And.intro (keepc o q1) (keepc o q3)); clear hx1 ob hwb hbA hl hr hR hjn JN1 JN JF hcat hln hlp q1 q3
  go_enter Tryz.func64, Tryz.ntmps64
  go_upto_region 1 with (fail)
  rw [HWB.out, HBA.out]; clear HWB HBA
  go_upto_region 5 with (fail)
  clear q0 q2; refine wp_region_steps 9 (by kernel_rfl) rfl (by kernel_rfl) [some 18, some 19, some 20, some 21, some 22, some 23, some 24, some 25, some 26] rfl rfl (fun _ => False) [(fun v _ => v = (.pointer (some ⟨bA, 1, none⟩))), (fun v _ => v = (.string ⟨nm.toArray⟩)), (fun v _ => v = (.string ({ data := #[101, 110, 117, 109, 32] } ++ ⟨nm.toArray⟩))), (fun v _ => v = (.string ({ data := #[101, 110, 117, 109, 32] } ++ ⟨nm.toArray⟩ ++ { data := #[32, 123, 32] }))), (fun v _ => v = (.pointer (some ⟨bA, 3, none⟩))), (fun v _ => v = (.slice an LN cn)), (fun v _ => v = (.string ⟨jn.toArray⟩)), (fun v _ => v = (.string ({ data := #[101, 110, 117, 109, 32] } ++ ⟨nm.toArray⟩ ++ { data := #[32, 123, 32] } ++ ⟨jn.toArray⟩))), (fun v _ => v = (.string ({ data := #[101, 110, 117, 109, 32] } ++ ⟨nm.toArray⟩ ++ { data := #[32, 123, 32] } ++ ⟨jn.toArray⟩ ++ { data := #[32, 125] })))] rfl ⟨?_, ?_, ?_, ?_, ?_, ?_, ?_, ?_, ?_, trivial⟩ _ rfl ⟨?_, ?_, ?_, ?_, ?_, ?_, ?_, ?_, ?_, trivial⟩ ?_
  iterate 9 exact Stable.is _ _
  ·intro x wx ox hN TT HTT; unfold StepTo; simp only [putAll, Act.put, zA, zB, zC]; clear hN
   go_wp2_with fail
   exact ⟨rfl, _, rfl, HTT.out _ _ rfl oR⟩
  ·intro x wx ox hN TT HTT; unfold StepTo; simp only [putAll, Act.put, zA, zB, zC, eI (hN.1 rfl)]; clear hN; obtain ⟨m1, m3⟩ := HX.out wx ox
   go_wp2_with fail
   exact ⟨rfl, _, rfl, HTT.out _ _ rfl oR⟩
  ·intro x wx ox hN TT HTT; unfold StepTo; simp only [putAll, Act.put, zA, zB, zC, eI (hN.1 rfl)]; clear hN
   go_wp2_with fail
   exact ⟨rfl, _, rfl, HTT.out _ _ rfl oR⟩
  ·intro x wx ox hN TT HTT; unfold StepTo; simp only [putAll, Act.put, zA, zB, zC, eI (hN.1 rfl)]; clear hN
   go_wp2_with fail
   exact ⟨rfl, _, rfl, HTT.out _ _ rfl oR⟩
  ·intro x wx ox hN TT HTT; unfold StepTo; simp only [putAll, Act.put, zA, zB, zC]; clear hN
   go_wp2_with fail
   exact ⟨rfl, _, rfl, HTT.out _ _ rfl oR⟩
  ·intro x wx ox hN TT HTT; unfold StepTo; simp only [putAll, Act.put, zA, zB, zC, eI (hN.1 rfl)]; clear hN; obtain ⟨m1, m3⟩ := HX.out wx ox
   go_wp2_with fail
   exact ⟨rfl, _, rfl, HTT.out _ _ rfl oR⟩
  ·intro x wx ox hN TT HTT; unfold StepTo; simp only [putAll, Act.put, zA, zB, zC, eI (hN.1 rfl)]; clear hN; have ht := HJN.out wx ox; have HT := hid ht; clear ht
   go_wp2_with fail
   refine HT.out.mono ?_
   rintro e w6 ⟨rfl, o6⟩; have O6 := hid o6; clear o6
   go_wp2_with fail
   exact ⟨rfl, _, rfl, HTT.out _ _ rfl (O6.out)⟩
  ·intro x wx ox hN TT HTT; unfold StepTo; simp only [putAll, Act.put, zA, zB, zC, eI (hN.1 rfl), eI (hN.2.1 rfl)]; clear hN
   go_wp2_with fail
   exact ⟨rfl, _, rfl, HTT.out _ _ rfl oR⟩
  ·intro x wx ox hN TT HTT; unfold StepTo; simp only [putAll, Act.put, zA, zB, zC, eI (hN.1 rfl)]; clear hN
   go_wp2_with fail
   exact ⟨rfl, _, rfl, HTT.out _ _ rfl oR⟩
  intro xz wxz oxz hN; simp only [putAll, Act.put, zA, zB, zC, eI hN.1, eI hN.2.1, eI hN.2.2.1, eI hN.2.2.2.1, eI hN.2.2.2.2.1, eI hN.2.2.2.2.2.1, eI hN.2.2.2.2.2.2.1, eI hN.2.2.2.2.2.2.2.1, eI hN.2.2.2.2.2.2.2.2.1]; clear hN; have OZ := hid ((Only.refl _ wb).drew.trans oxz); clear oxz
  go_wp2_with fail
  go_ret
  rw [HCAT.out]; exact ⟨rfl, HOB.out.trans OZ.out⟩
 ·subst hk; have hr : ren (tdI ⟨5, nm, fs, ns⟩) = [105, 110, 112, 117, 116, 32] ++ nm ++ [32, 123, 32] ++ Lib.join (fs.map fun f => ren (fdI f)) [32] ++ [32, 125] := by
   rw [td_ren5 nm fs ns hns, fld_join hfs]; subst hns; simp [nmsI, sepI, ren]
  obtain ⟨jf, hjf⟩ := eX (Lib.join (fs.map fun f => ren (fdI f)) [32]); obtain ⟨jn, hjn⟩ := eX (Lib.join ns [32, 38, 32]); rw [hjf] at hr; obtain ⟨R, hR⟩ := eX (ren (tdI ⟨5, nm, fs, ns⟩)); rw [hR] at hr hl ⊢; have hll : 6 + nm.length + 3 + jf.length + 2 ≤ 1000000000000 := by
   rw [hr] at hl; simp only [List.length_append, List.length_cons, List.length_nil] at hl; omega
  obtain ⟨wb, hwb⟩ := eX (w.alloc (.cells #[.int .u8 5, .string ⟨nm.toArray⟩, .slice af LF cf, .slice an LN cn] 99)); have ob : Only (fun _ => False) w wb := by rw [← hwb]; exact (Only.refl _ w).alloc _
  have hx1 : wb.heap[bA]? = some (.cells #[.int .u8 5, .string ⟨nm.toArray⟩, .slice af LF cf, .slice an LN cn] 99 (0, 0)) := by rw [← hwb, ← hbA]; exact heap_new w _
  obtain ⟨q0, q1, q2, q3, -⟩ := boxN4 hx1; have HX1 := hid hx1; have HOB := hid ob; have HWB := hid hwb; have HBA := hid hbA; have JF1 := fun wx ox => JF wx ox (by rw [hjf]; omega)
  rw [hjf] at JF1; have HJF := hid JF1; have hcat : ((({ data := #[105, 110, 112, 117, 116, 32] } ++ ⟨nm.toArray⟩) ++ { data := #[32, 123, 32] } ++ ⟨jf.toArray⟩ ++ { data := #[32, 125] } : ByteArray)) = ⟨R.toArray⟩ := by
   rw [hr]; simp only [← cat_list]
  have HCAT := hid hcat; clear hx1 ob hwb hbA hl hr hR hjn hjf JF1 JN JF hcat hln hlp hfs hns
  go_enter Tryz.func64, Tryz.ntmps64
  go_upto_region 1 with (fail)
  rw [HWB.out, HBA.out]; clear HWB HBA; have HO2 := HOB; have J := hid (HJF.out wb HOB.out)
  go_wp2_with fail
  refine J.out.mono ?_
  rintro e w3 ⟨rfl, o3⟩; have HO3 := hid (HO2.out.trans o3); clear o3 J q0 q1 q2 q3
  go_wp2_with fail
  go_ret
  rw [HCAT.out]; exact ⟨rfl, HO3.out⟩
theorem tys_join (ts : List TD) : ren (tysI ts) = Lib.join (ts.map fun t => ren (tdI t)) [32] := by
 unfold tysI; rw [sep_join, List.map_map]; rfl
theorem tys_each (ts : List TD) (hw : ∀ t ∈ ts, WellTQ t) (G : Nat → Prop) (w : World) (ht : Tab w) (hl : (Lib.join (ts.map fun t => ren (tdI t)) [32]).length ≤ 1000000000000) :
  ∀ (j : Nat) (hj : j < ts.length) (wx : World) (cs : List Value), Only (fun _ => False) w wx → CellsAt wx G (tdC ts[j]) cs → Calls Tryz.prog 64 #[.agg cs.toArray] wx (fun e w' => e = .returned (.string ⟨((fun t => ren (tdI t)) ts[j]).toArray⟩) ∧ Only (fun _ => False) wx w') := by
 intro j hj wx cs ox hcs; have hq2 : (ren (tdI ts[j])).length ≤ 1000000000000 := Nat.le_trans (join_part (fun t => ren (tdI t)) [32] ts j hj) hl; exact ppT1_any ts[j] (hw _ (List.getElem_mem hj)) G wx cs hcs (ht.still ox) hq2
set_option maxRecDepth 100000 in
set_option maxHeartbeats 8000000 in
theorem ppTs_any (ts : List TD) (hw : ∀ t ∈ ts, WellTQ t) (G : Nat → Prop) (w : World) (v : Value) (h : CellAt w G (.row 4 (ts.map tdC)) v) (ht : Tab w) (hl : (ren (tysI ts)).length ≤ 1000000000000) :
  Calls Tryz.prog 30 #[v] w (fun e w' => e = .returned (.string ⟨(ren (tysI ts)).toArray⟩) ∧ Only (fun _ => False) w w') := by
 rw [tys_join] at hl ⊢; have J := pjoinT_any ts (fun t => ren (tdI t)) G w v [32] (by decide) h (tys_each ts hw G w ht hl) hl; obtain ⟨a, c, rfl⟩ := row_form h; obtain ⟨R, hR⟩ := eX (Lib.join (ts.map fun t => ren (tdI t)) [32]); obtain ⟨LT, hLT⟩ := eX ((ts.map tdC).length); rw [hR] at J ⊢; rw [hLT] at J ⊢; have J := hid J; clear h hl hw ht hR hLT
 go_enter Tryz.func30, Tryz.ntmps30
 go_wp2_with fail
 refine J.out.mono ?_
 rintro e w1 ⟨rfl, o1⟩; have HO := hid o1; clear o1 J
 go_wp2_with fail
 go_ret
 exact ⟨rfl, HO.out⟩
end Go.Proofs.YtnkpoddbbdmipaaGreatDoor
