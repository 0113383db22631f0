/- The law's example (columbarylaw08.awake). PrintNames: the walk. -/
import Derived.Test.YtnkpoddbbdmipaaGreatDoorNaPpd
import Derived.Test.YtnkpoddbbdmipaaGreatDoorNaRhx
import Derived.Test.YtnkpoddbbdmipaaGreatDoorNaTyi
namespace Go.Proofs.YtnkpoddbbdmipaaGreatDoor
open Go Go.RowKit
set_option linter.unusedVariables false
set_option linter.unusedSimpArgs false

def awkT8 : List UInt8 := [123, 97, 58, 98, 40, 99, 58, 91, 49, 44, 50, 93, 41, 46, 46, 46, 70, 125]
def awkD8 : DC := ⟨[⟨false, [], [], [.mk 1 [97] [98] [] [⟨[99], .mk 5 0 [] [] [.mk 1 1 [] [] [], .mk 1 2 [] [] []]⟩] [] [], .mk 2 [] [70] [] [] [] []]⟩], []⟩
def awkP8 : List UInt8 := [113, 117, 101, 114, 121, 32, 123, 32, 97, 58, 32, 98, 40, 99, 58, 32, 91, 49, 44, 32, 50, 93, 41, 32, 46, 46, 46, 70, 32, 125]
set_option maxRecDepth 100000 in
theorem awk8_doc : docP awkT8 = .ok awkD8 := by kernel_rfl
set_option maxRecDepth 100000 in
theorem awk8_text : ren (docI awkD8) = awkP8 := by kernel_rfl
set_option maxRecDepth 100000 in
set_option maxHeartbeats 4000000 in
theorem awake08 (w : World) (ht : Tab w) : Calls Tryz.prog 11 #[] w fun e w' => e = .returned (.bool true) ∧ Only (fun _ => False) w w' := by
 have T := Lib.hid (fdocument_any ⟨awkT8.toArray⟩ w (by unfold maxLen; decide))
 rw [show (⟨awkT8.toArray⟩ : ByteArray).data.toList = awkT8 from rfl, awk8_doc] at T
 have HT := Lib.hid ht
 clear ht
 go_enter Tryz.func11, Tryz.ntmps11
 go_wp2_with fail
 refine T.out.mono ?_
 rintro e w1 ⟨a1, c1, a2, c2, rfl, hd, ho⟩
 have hld : awkD8.ops.length = 1 := rfl
 have hlf : awkD8.frags.length = 0 := rfl
 rw [hld, hlf] at *
 obtain ⟨wA, hwA⟩ : ∃ wA, w1.alloc (.cells #[.slice a1 1 c1, .slice a2 0 c2] 26) = wA := ⟨_, rfl⟩
 have oa : Only (fun _ => False) w1 wA := by rw [← hwA]; exact (Only.refl _ w1).alloc _
 have hbx := heap_new w1 (.cells #[.slice a1 1 c1, .slice a2 0 c2] 26)
 rw [hwA] at hbx
 have J := Lib.hid (ppD_any awkD8 (docP_good awk8_doc).1 _ wA _ _ (CellsAt.only oa (fun _ _ h => h) _ _ hd) (HT.out.still (ho.trans oa)) (by rw [awk8_text]; decide))
 rw [awk8_text] at J
 obtain ⟨B, hB⟩ : ∃ B, w1.heap.size = B := ⟨_, rfl⟩
 rw [hB] at hbx
 obtain ⟨q0, q1, -⟩ := boxN2 hbx
 have HO := Lib.hid (ho.trans oa); have HWA := Lib.hid hwA; have HB := Lib.hid hB
 clear hd ho T hld hlf oa hwA hB hbx
 go_upto_region 2 with (fail)
 rw [HB.out, HWA.out]
 go_wp2_with fail
 refine J.out.mono ?_
 rintro e w2 ⟨rfl, o2⟩
 have HO2 := Lib.hid (HO.out.trans o2)
 clear o2 q0 q1
 go_wp2_with fail
 go_ret
 exact ⟨by rfl, HO2.out⟩
end Go.Proofs.YtnkpoddbbdmipaaGreatDoor
namespace Go.Proofs.YtnkpoddbbdmipaaGreatDoor
open Go Go.RowKit
set_option linter.unusedVariables false
set_option linter.unusedSimpArgs false

theorem agg_of_cellsQ {v : Value} {cs : List Value} (h : v.cells.toList = cs) (hl : cs.length ≠ 1) : v = .agg cs.toArray := by
 cases v with
 | agg a => simp [Value.cells] at h; subst h; simp
 | _ => simp [Value.cells] at h; subst h; simp at hl
theorem tt_of_Trod {H : Type} {enc : TypeId × Value → H} {w : World} {v : Value} {d : DataW H} {p : List MemPlace} (h : DataW.Trod enc Tryz.prog w 0 (fun _ => true) true 41 v d p) (hw : ∀ n ∈ d.weights Tryz.prog 41, n ≤ 140737488351232) :
  ∃ (t : TT) (s : List UInt8) (a : Option Addr) (l c : Nat) (b : Bool), v = .agg #[.string ⟨s.toArray⟩, .slice a l c, .bool b] ∧ CellsAt w (fun q => q < w.heap.size) (ttC t) [.string ⟨s.toArray⟩, .slice a l c, .bool b] ∧ TSz t := by
 obtain ⟨fuel, hf⟩ := h
 obtain ⟨t, ht, hz⟩ := tt_of_trod w fuel _ _ hf hw
 obtain ⟨s, of, b⟩ := t
 obtain ⟨v', e, hv⟩ := tt_cells ht
 obtain ⟨a, c, rfl⟩ := row_form hv
 rw [e] at ht
 exact ⟨_, s, a, _, c, b, agg_of_cellsQ e (by simp), ht, hz⟩
set_option maxRecDepth 100000 in
set_option maxHeartbeats 16000000 in
theorem pnames_walk (v0 v1 : Value) (w : World) {H : Type} {enc : TypeId × Value → H} {d0 d1 : DataW H} {p0 p1 : List MemPlace} (h0 : DataW.Trod enc Tryz.prog w 0 (fun _ => true) true 41 v0 d0 p0) (g0 : ∀ n ∈ d0.weights Tryz.prog 41, n ≤ 140737488351232)
  (h1 : DataW.Trod enc Tryz.prog w 0 (fun _ => true) true 41 v1 d1 p1) (g1 : ∀ n ∈ d1.weights Tryz.prog 41, n ≤ 140737488351232) (ht : Tab w) :
  Calls Tryz.prog 5 #[v0, v1] w fun e w' => e = .returned (.bool true) ∧ Below w.heap.size w w' := by
 obtain ⟨t0, s0, a0, l0, c0, b0, rfl, k0, z0⟩ := tt_of_Trod h0 g0
 obtain ⟨t1, s1, a1, l1, c1, b1, rfl, k1, z1⟩ := tt_of_Trod h1 g1
 obtain ⟨bA, hbA⟩ : ∃ b, w.heap.size = b := ⟨_, rfl⟩
 obtain ⟨bB, hbB⟩ : ∃ b, bA + 1 = b := ⟨_, rfl⟩
 obtain ⟨wb, hwb⟩ : ∃ wb, (w.alloc (.cells #[.string ⟨s0.toArray⟩, .slice a0 l0 c0, .bool b0] 41)).alloc (.cells #[.string ⟨s1.toArray⟩, .slice a1 l1 c1, .bool b1] 41) = wb := ⟨_, rfl⟩
 have ob : Only (fun _ => False) w wb := by rw [← hwb]; exact ((Only.refl _ w).alloc _).alloc _
 have hx1 : wb.heap[bA]? = some (.cells #[.string ⟨s0.toArray⟩, .slice a0 l0 c0, .bool b0] 41 (0, 0)) := by rw [← hwb, ← hbA]; exact heap_old (heap_new w _) _
 have hx2 : wb.heap[bB]? = some (.cells #[.string ⟨s1.toArray⟩, .slice a1 l1 c1, .bool b1] 41 (0, 0)) := by
  rw [← hwb, ← hbB, ← hbA]
  have := heap_new (w.alloc (.cells #[.string ⟨s0.toArray⟩, .slice a0 l0 c0, .bool b0] 41)) (.cells #[.string ⟨s1.toArray⟩, .slice a1 l1 c1, .bool b1] 41)
  rw [World.size_alloc] at this; exact this
 have JS0 := Lib.hid (fun (wx : World) (ox : Only (fun _ => False) w wx) => small_any 20 t0 _ wx _ (by omega) (CellsAt.only ox (fun _ _ h => h) _ _ k0))
 have JS1 := Lib.hid (fun (wx : World) (ox : Only (fun _ => False) w wx) => small_any 20 t1 _ wx _ (by omega) (CellsAt.only ox (fun _ _ h => h) _ _ k1))
 have JA := Lib.hid (fun (wx : World) (ox : Only (fun _ => False) w wx) => awake08 wx (ht.still ox))
 have HK0 := Lib.hid k0; have HK1 := Lib.hid k1; have HZ0 := Lib.hid z0; have HZ1 := Lib.hid z1
 have HX1 := Lib.hid hx1; have HX2 := Lib.hid hx2; have HOB := Lib.hid ob; have HWB := Lib.hid hwb; have HBA := Lib.hid hbA; have HBB := Lib.hid hbB
 obtain ⟨x0, x1, x2, -⟩ := boxN3 hx1
 obtain ⟨y0, y1, y2, -⟩ := boxN3 hx2
 clear h0 h1 g0 g1 k0 k1 z0 z1 hx1 hx2 ob hwb hbA hbB ht
 obtain ⟨sa, hsa⟩ : ∃ b, smallB 20 t0 = b := ⟨_, rfl⟩
 obtain ⟨sb, hsb⟩ : ∃ b, smallB 20 t1 = b := ⟨_, rfl⟩
 rw [hsa] at JS0
 rw [hsb] at JS1
 have J0 := Lib.hid (JS0.out wb HOB.out)
 have HSA := Lib.hid hsa; have HSB := Lib.hid hsb
 clear hsa hsb
 go_enter Tryz.func5, Tryz.ntmps5
 go_upto_region 1 with (fail)
 rw [HWB.out, HBA.out, HBB.out]
 clear HWB HBA HBB
 go_wp2_with fail
 refine J0.out.mono ?_
 rintro e w1 ⟨rfl, o1⟩
 have HO1 := Lib.hid (HOB.out.trans o1); have O1 := Lib.hid o1
 have x0 := keepc o1 x0; have x1 := keepc o1 x1; have x2 := keepc o1 x2
 have y0 := keepc o1 y0; have y1 := keepc o1 y1; have y2 := keepc o1 y2
 clear o1 J0
 cases sa with
 | false =>
  have J := Lib.hid (JA.out w1 HO1.out)
  go_wp2_with fail
  refine J.out.mono ?_
  rintro e w2 ⟨rfl, o2⟩
  have HO2 := Lib.hid (HO1.out.trans o2)
  clear o2 x0 x1 x2 y0 y1 y2
  go_wp2_with fail
  go_ret
  exact ⟨rfl, HO2.out.below (Nat.le_refl _) (fun _ _ h => h)⟩
 | true =>
  have J1 := Lib.hid (JS1.out w1 HO1.out)
  go_wp2_with fail
  refine J1.out.mono ?_
  rintro e w2 ⟨rfl, o2⟩
  have HO2 := Lib.hid (HO1.out.trans o2); have O2 := Lib.hid (O1.out.trans o2)
  have x0 := keepc o2 x0; have x1 := keepc o2 x1; have x2 := keepc o2 x2
  have y0 := keepc o2 y0; have y1 := keepc o2 y1; have y2 := keepc o2 y2
  clear o2 J1
  cases sb with
  | false =>
   have J := Lib.hid (JA.out w2 HO2.out)
   go_wp2_with fail
   refine J.out.mono ?_
   rintro e w3 ⟨rfl, o3⟩
   have HO3 := Lib.hid (HO2.out.trans o3)
   clear o3 x0 x1 x2 y0 y1 y2
   go_wp2_with fail
   go_ret
   exact ⟨rfl, HO3.out.below (Nat.le_refl _) (fun _ _ h => h)⟩
  | true =>
   have q0 := HK0.out; have q1 := HK1.out
   rw [← ttC_small 20 t0 HSA.out] at q0
   rw [← ttC_small 20 t1 HSB.out] at q1
   have n0 := typ_len 20 t0 HZ0.out HSA.out; have n1 := typ_len 20 t1 HZ1.out HSB.out
   have r0 := trz_of 20 t0 HZ0.out HSA.out; have r1 := trz_of 20 t1 HZ1.out HSB.out
   generalize toTR t0 = u0 at *
   generalize toTR t1 = u1 at *
   have HT0 := Lib.hid (fun (wx : World) (ox : Only (fun _ => False) w2.drew wx) => have o := HO2.out.trans ((Only.refl _ w2).drew.trans ox); ppT_big u0 _ wx _ (CellsAt.only o (fun _ _ h => h) _ _ q0) (by omega))
   have HT1 := Lib.hid (fun (wx : World) (ox : Only (fun _ => False) w2.drew wx) => have o := HO2.out.trans ((Only.refl _ w2).drew.trans ox); ppT_big u1 _ wx _ (CellsAt.only o (fun _ _ h => h) _ _ q1) (by omega))
   have HR0 := Lib.hid (fun (wx : World) (ox : Only (fun _ => False) w2.drew wx) => have o := HO2.out.trans ((Only.refl _ w2).drew.trans ox); prT_big u0 _ wx _ (CellsAt.only o (fun _ _ h => h) _ _ q0) (by omega))
   have HR1 := Lib.hid (fun (wx : World) (ox : Only (fun _ => False) w2.drew wx) => have o := HO2.out.trans ((Only.refl _ w2).drew.trans ox); prT_big u1 _ wx _ (CellsAt.only o (fun _ _ h => h) _ _ q1) (by omega))
   have HX := Lib.hid (fun (wx : World) (ox : Only (fun _ => False) w2.drew wx) => have o := (Only.refl _ w2).drew.trans ox; And.intro (keepc o x0) (And.intro (keepc o x1) (And.intro (keepc o x2) (And.intro (keepc o y0) (And.intro (keepc o y1) (keepc o y2))))))
   have Q0 := Lib.hid q0; have Q1 := Lib.hid q1; have R0 := Lib.hid r0; have R1 := Lib.hid r1; have N0 := Lib.hid n0; have N1 := Lib.hid n1
   have HINJ := Lib.hid (typ_inj u0 u1)
   obtain ⟨xa, hxa⟩ : ∃ x, ren (typI u0) = x := ⟨_, rfl⟩
   obtain ⟨xb, hxb⟩ : ∃ x, ren (typI u1) = x := ⟨_, rfl⟩
   have HXA := Lib.hid hxa; have HXB := Lib.hid hxb
   rw [hxa] at HT0 HR0
   rw [hxb] at HT1 HR1
   clear q0 q1 n0 n1 r0 r1 hxa hxb HK0 HK1 HZ0 HZ1 HSA HSB JS0 JS1
   go_upto_region 3 with (fail)
   clear x0 x1 x2 y0 y1 y2
   refine wp_region_steps 11 (by kernel_rfl) rfl (by kernel_rfl) [some 14, some 15, some 16, some 17, some 18, some 19, some 20, some 21, some 22, some 23, some 24] rfl rfl (fun _ => False) [(fun v _ => v = (.agg #[.string ⟨s0.toArray⟩, .slice a0 l0 c0, .bool b0])), (fun v _ => v = (.string ⟨xa.toArray⟩)), (fun v _ => v = (.agg #[.string ⟨s0.toArray⟩, .slice a0 l0 c0, .bool b0])), (fun v _ => v = (.string ⟨xa.toArray⟩)), (fun v _ => v = (.bool false)), (fun v _ => v = (.bool false)), (fun v _ => v = (.agg #[.string ⟨s1.toArray⟩, .slice a1 l1 c1, .bool b1])), (fun v _ => v = (.string ⟨xb.toArray⟩)), (fun v _ => v = (.agg #[.string ⟨s1.toArray⟩, .slice a1 l1 c1, .bool b1])), (fun v _ => v = (.string ⟨xb.toArray⟩)), (fun v _ => v = (.bool false))] rfl ⟨?_, ?_, ?_, ?_, ?_, ?_, ?_, ?_, ?_, ?_, ?_, trivial⟩ _ rfl ⟨?_, ?_, ?_, ?_, ?_, ?_, ?_, ?_, ?_, ?_, ?_, trivial⟩ ?_
   ·exact Stable.is _ _
   ·exact Stable.is _ _
   ·exact Stable.is _ _
   ·exact Stable.is _ _
   ·exact Stable.is _ _
   ·exact Stable.is _ _
   ·exact Stable.is _ _
   ·exact Stable.is _ _
   ·exact Stable.is _ _
   ·exact Stable.is _ _
   ·exact Stable.is _ _
   ·intro x wx ox hN TT HTT
    clear hN
    unfold StepTo
    simp only [putAll, Act.put, List.setIfInBounds_toArray, List.set_cons_succ, List.set_cons_zero]
    obtain ⟨m0, m1, m2, m3, m4, m5⟩ := HX.out wx ox
    go_wp2_with fail
    exact ⟨rfl, _, rfl, HTT.out _ _ (rfl) (Only.refl _ _)⟩
   ·intro x wx ox hN TT HTT
    have r14 : x 0 = (.agg #[.string ⟨s0.toArray⟩, .slice a0 l0 c0, .bool b0]) := hN.1 rfl
    clear hN
    unfold StepTo
    simp only [putAll, Act.put, List.setIfInBounds_toArray, List.set_cons_succ, List.set_cons_zero, r14]
    clear r14
    have ht := HT0.out wx ox
    have HT := Lib.hid ht; clear ht
    go_wp2_with fail
    refine HT.out.mono ?_
    rintro e w6 ⟨rfl, o6⟩
    have O6 := Lib.hid o6; clear o6
    go_wp2_with fail
    exact ⟨rfl, _, rfl, HTT.out _ _ (rfl) (O6.out)⟩
   ·intro x wx ox hN TT HTT
    clear hN
    unfold StepTo
    simp only [putAll, Act.put, List.setIfInBounds_toArray, List.set_cons_succ, List.set_cons_zero]
    obtain ⟨m0, m1, m2, m3, m4, m5⟩ := HX.out wx ox
    go_wp2_with fail
    exact ⟨rfl, _, rfl, HTT.out _ _ (rfl) (Only.refl _ _)⟩
   ·intro x wx ox hN TT HTT
    have r16 : x 2 = (.agg #[.string ⟨s0.toArray⟩, .slice a0 l0 c0, .bool b0]) := hN.1 rfl
    have r15 : x 1 = (.string ⟨xa.toArray⟩) := hN.2.1 rfl
    clear hN
    unfold StepTo
    simp only [putAll, Act.put, List.setIfInBounds_toArray, List.set_cons_succ, List.set_cons_zero, r16, r15]
    clear r16 r15
    have ht := HR0.out wx ox
    have HT := Lib.hid ht; clear ht
    go_wp2_with fail
    refine HT.out.mono ?_
    rintro e w6 ⟨rfl, o6⟩
    have O6 := Lib.hid o6; clear o6
    go_wp2_with fail
    exact ⟨rfl, _, rfl, HTT.out _ _ (rfl) (O6.out)⟩
   ·intro x wx ox hN TT HTT
    have r15 : x 1 = (.string ⟨xa.toArray⟩) := hN.1 rfl
    have r17 : x 3 = (.string ⟨xa.toArray⟩) := hN.2.1 rfl
    clear hN
    unfold StepTo
    simp only [putAll, Act.put, List.setIfInBounds_toArray, List.set_cons_succ, List.set_cons_zero, r15, r17]
    clear r15 r17
    go_wp2_with fail
    exact ⟨rfl, _, rfl, HTT.out _ _ (rfl) (Only.refl _ _)⟩
   ·intro x wx ox hN TT HTT
    have r18 : x 4 = (.bool false) := hN.1 rfl
    have r17 : x 3 = (.string ⟨xa.toArray⟩) := hN.2.1 rfl
    clear hN
    unfold StepTo
    simp only [putAll, Act.put, List.setIfInBounds_toArray, List.set_cons_succ, List.set_cons_zero, r18, r17]
    clear r18 r17
    go_wp2_with fail
    exact ⟨rfl, _, rfl, HTT.out _ _ (rfl) (Only.refl _ _)⟩
   ·intro x wx ox hN TT HTT
    have r19 : x 5 = (.bool false) := hN.1 rfl
    clear hN
    unfold StepTo
    simp only [putAll, Act.put, List.setIfInBounds_toArray, List.set_cons_succ, List.set_cons_zero, r19]
    clear r19
    obtain ⟨m0, m1, m2, m3, m4, m5⟩ := HX.out wx ox
    go_wp2_with fail
    exact ⟨rfl, _, rfl, HTT.out _ _ (rfl) (Only.refl _ _)⟩
   ·intro x wx ox hN TT HTT
    have r20 : x 6 = (.agg #[.string ⟨s1.toArray⟩, .slice a1 l1 c1, .bool b1]) := hN.1 rfl
    have r19 : x 5 = (.bool false) := hN.2.1 rfl
    clear hN
    unfold StepTo
    simp only [putAll, Act.put, List.setIfInBounds_toArray, List.set_cons_succ, List.set_cons_zero, r20, r19]
    clear r20 r19
    have ht := HT1.out wx ox
    have HT := Lib.hid ht; clear ht
    go_wp2_with fail
    refine HT.out.mono ?_
    rintro e w6 ⟨rfl, o6⟩
    have O6 := Lib.hid o6; clear o6
    go_wp2_with fail
    exact ⟨rfl, _, rfl, HTT.out _ _ (rfl) (O6.out)⟩
   ·intro x wx ox hN TT HTT
    have r19 : x 5 = (.bool false) := hN.1 rfl
    clear hN
    unfold StepTo
    simp only [putAll, Act.put, List.setIfInBounds_toArray, List.set_cons_succ, List.set_cons_zero, r19]
    clear r19
    obtain ⟨m0, m1, m2, m3, m4, m5⟩ := HX.out wx ox
    go_wp2_with fail
    exact ⟨rfl, _, rfl, HTT.out _ _ (rfl) (Only.refl _ _)⟩
   ·intro x wx ox hN TT HTT
    have r22 : x 8 = (.agg #[.string ⟨s1.toArray⟩, .slice a1 l1 c1, .bool b1]) := hN.1 rfl
    have r21 : x 7 = (.string ⟨xb.toArray⟩) := hN.2.1 rfl
    have r19 : x 5 = (.bool false) := hN.2.2.1 rfl
    clear hN
    unfold StepTo
    simp only [putAll, Act.put, List.setIfInBounds_toArray, List.set_cons_succ, List.set_cons_zero, r22, r21, r19]
    clear r22 r21 r19
    have ht := HR1.out wx ox
    have HT := Lib.hid ht; clear ht
    go_wp2_with fail
    refine HT.out.mono ?_
    rintro e w6 ⟨rfl, o6⟩
    have O6 := Lib.hid o6; clear o6
    go_wp2_with fail
    exact ⟨rfl, _, rfl, HTT.out _ _ (rfl) (O6.out)⟩
   ·intro x wx ox hN TT HTT
    have r21 : x 7 = (.string ⟨xb.toArray⟩) := hN.1 rfl
    have r23 : x 9 = (.string ⟨xb.toArray⟩) := hN.2.1 rfl
    have r19 : x 5 = (.bool false) := hN.2.2.1 rfl
    clear hN
    unfold StepTo
    simp only [putAll, Act.put, List.setIfInBounds_toArray, List.set_cons_succ, List.set_cons_zero, r21, r23, r19]
    clear r21 r23 r19
    go_wp2_with fail
    exact ⟨rfl, _, rfl, HTT.out _ _ (rfl) (Only.refl _ _)⟩
   intro xz wxz oxz hN
   have r14 : xz 0 = (.agg #[.string ⟨s0.toArray⟩, .slice a0 l0 c0, .bool b0]) := hN.1
   have r15 : xz 1 = (.string ⟨xa.toArray⟩) := hN.2.1
   have r16 : xz 2 = (.agg #[.string ⟨s0.toArray⟩, .slice a0 l0 c0, .bool b0]) := hN.2.2.1
   have r17 : xz 3 = (.string ⟨xa.toArray⟩) := hN.2.2.2.1
   have r18 : xz 4 = (.bool false) := hN.2.2.2.2.1
   have r19 : xz 5 = (.bool false) := hN.2.2.2.2.2.1
   have r20 : xz 6 = (.agg #[.string ⟨s1.toArray⟩, .slice a1 l1 c1, .bool b1]) := hN.2.2.2.2.2.2.1
   have r21 : xz 7 = (.string ⟨xb.toArray⟩) := hN.2.2.2.2.2.2.2.1
   have r22 : xz 8 = (.agg #[.string ⟨s1.toArray⟩, .slice a1 l1 c1, .bool b1]) := hN.2.2.2.2.2.2.2.2.1
   have r23 : xz 9 = (.string ⟨xb.toArray⟩) := hN.2.2.2.2.2.2.2.2.2.1
   have r24 : xz 10 = (.bool false) := hN.2.2.2.2.2.2.2.2.2.2.1
   clear hN
   simp only [putAll, Act.put, List.setIfInBounds_toArray, List.set_cons_succ, List.set_cons_zero, r14, r15, r16, r17, r18, r19, r20, r21, r22, r23, r24]
   clear r14 r15 r16 r17 r18 r19 r20 r21 r22 r23 r24
   have OZ := Lib.hid ((Only.refl _ w2).drew.trans oxz); clear oxz
   have hz1 := (HX1.out); have hz2 := (HX2.out)
   have o3 := O2.out.trans OZ.out
   obtain ⟨x0, x1, x2, -⟩ := boxN3 ((o3.block bA (Array.getElem?_eq_some_iff.1 hz1).1 (fun h => h)).trans hz1)
   obtain ⟨y0, y1, y2, -⟩ := boxN3 ((o3.block bB (Array.getElem?_eq_some_iff.1 hz2).1 (fun h => h)).trans hz2)
   clear hz1 hz2 o3
   obtain ⟨w3, hw3⟩ : ∃ x, wxz = x := ⟨_, rfl⟩
   rw [hw3] at OZ x0 x1 x2 y0 y1 y2 ⊢
   clear hw3 HX HT0 HT1 HR0 HR1
   have HO3 := Lib.hid (HO2.out.trans OZ.out)
   have HT0 := Lib.hid (fun (wx : World) (ox : Only (fun _ => False) w3.drew wx) => have o := HO3.out.trans ((Only.refl _ w3).drew.trans ox); ppT_big u0 _ wx _ (CellsAt.only o (fun _ _ h => h) _ _ Q0.out) (by have := N0.out; omega))
   have HT1 := Lib.hid (fun (wx : World) (ox : Only (fun _ => False) w3.drew wx) => have o := HO3.out.trans ((Only.refl _ w3).drew.trans ox); ppT_big u1 _ wx _ (CellsAt.only o (fun _ _ h => h) _ _ Q1.out) (by have := N1.out; omega))
   have HP0 := Lib.hid (fun (wx : World) (ox : Only (fun _ => False) w3.drew wx) => have o := HO3.out.trans ((Only.refl _ w3).drew.trans ox); plain_any u0 _ wx _ (CellsAt.only o (fun _ _ h => h) _ _ Q0.out) R0.out)
   have HP1 := Lib.hid (fun (wx : World) (ox : Only (fun _ => False) w3.drew wx) => have o := HO3.out.trans ((Only.refl _ w3).drew.trans ox); plain_any u1 _ wx _ (CellsAt.only o (fun _ _ h => h) _ _ Q1.out) R1.out)
   have HSM := Lib.hid (fun (wx : World) (ox : Only (fun _ => False) w3.drew wx) => have o := HO3.out.trans ((Only.refl _ w3).drew.trans ox); sameT_any u0 u1 _ _ wx _ _ (CellsAt.only o (fun _ _ h => h) _ _ Q0.out) (CellsAt.only o (fun _ _ h => h) _ _ Q1.out))
   have HAW := Lib.hid (fun (wx : World) (ox : Only (fun _ => False) w3.drew wx) => JA.out wx (HO3.out.trans ((Only.refl _ w3).drew.trans ox)))
   have HX := Lib.hid (fun (wx : World) (ox : Only (fun _ => False) w3.drew wx) => have o := (Only.refl _ w3).drew.trans ox; And.intro (keepc o x0) (And.intro (keepc o x1) (And.intro (keepc o x2) (And.intro (keepc o y0) (And.intro (keepc o y1) (keepc o y2))))))
   rw [HXA.out] at HT0
   rw [HXB.out] at HT1
   obtain ⟨pa, hpa⟩ : ∃ b, plainB u0 = b := ⟨_, rfl⟩
   obtain ⟨pb, hpb⟩ : ∃ b, plainB u1 = b := ⟨_, rfl⟩
   obtain ⟨sm, hsm⟩ : ∃ b, trSame u0 u1 = b := ⟨_, rfl⟩
   rw [hpa] at HP0
   rw [hpb] at HP1
   rw [hsm] at HSM
   have HEQ := Lib.hid (show pa = true → pb = true → (xa == xb) = sm from fun e1 e2 => by
    rw [← hsm]
    by_cases hxx : xa = xb
    ·have e : u0 = u1 := HINJ.out (hpa.trans e1) (hpb.trans e2) (by rw [HXA.out, HXB.out, hxx])
     rw [(trSame_iff u0 u1).2 e, hxx]; simp
    ·have hne : trSame u0 u1 = false := by
      cases hq : trSame u0 u1 with
      | false => rfl
      | true => exact absurd (by rw [← HXA.out, ← HXB.out, (trSame_iff u0 u1).1 hq]) hxx
     rw [hne]; simpa using hxx)
   clear hpa hpb hsm HINJ Q0 Q1 R0 R1 N0 N1 HXA HXB JA HO2 O1 O2 HO1
   go_upto_region 5 with (fail)
   clear x0 x1 x2 y0 y1 y2
   cases pa with
   | false =>
    refine wp_region_steps 22 (by kernel_rfl) rfl (by kernel_rfl) [some 26, some 27, some 28, some 29, some 30, some 31, some 32, some 33, some 34, some 35, some 36, some 37, some 38, some 39, some 40, some 41, some 42, some 43, some 44, some 45, some 46, some 47] rfl rfl (fun _ => False) [(fun v _ => v = (.bool true)), (fun v _ => v = (.bool true)), (fun v _ => v = (.agg #[.string ⟨s0.toArray⟩, .slice a0 l0 c0, .bool b0])), (fun v _ => v = (.bool false)), (fun v _ => v = (.bool true)), (fun v _ => v = (.bool true)), (fun v _ => v = undef), (fun v _ => v = undef), (fun v _ => v = undef), (fun v _ => v = (.bool true)), (fun v _ => v = (.bool true)), (fun v _ => v = undef), (fun v _ => v = undef), (fun v _ => v = undef), (fun v _ => v = undef), (fun v _ => v = undef), (fun v _ => v = undef), (fun v _ => v = undef), (fun v _ => v = undef), (fun v _ => v = undef), (fun v _ => v = (.bool true)), (fun v _ => v = (.bool true))] rfl ⟨?_, ?_, ?_, ?_, ?_, ?_, ?_, ?_, ?_, ?_, ?_, ?_, ?_, ?_, ?_, ?_, ?_, ?_, ?_, ?_, ?_, ?_, trivial⟩ _ rfl ⟨?_, ?_, ?_, ?_, ?_, ?_, ?_, ?_, ?_, ?_, ?_, ?_, ?_, ?_, ?_, ?_, ?_, ?_, ?_, ?_, ?_, ?_, trivial⟩ ?_
    ·exact Stable.is _ _
    ·exact Stable.is _ _
    ·exact Stable.is _ _
    ·exact Stable.is _ _
    ·exact Stable.is _ _
    ·exact Stable.is _ _
    ·exact Stable.is _ _
    ·exact Stable.is _ _
    ·exact Stable.is _ _
    ·exact Stable.is _ _
    ·exact Stable.is _ _
    ·exact Stable.is _ _
    ·exact Stable.is _ _
    ·exact Stable.is _ _
    ·exact Stable.is _ _
    ·exact Stable.is _ _
    ·exact Stable.is _ _
    ·exact Stable.is _ _
    ·exact Stable.is _ _
    ·exact Stable.is _ _
    ·exact Stable.is _ _
    ·exact Stable.is _ _
    ·intro x wx ox hN TT HTT
     clear hN
     unfold StepTo
     simp only [putAll, Act.put, List.setIfInBounds_toArray, List.set_cons_succ, List.set_cons_zero]
     have ht := HAW.out wx ox
     have HT := Lib.hid ht; clear ht
     go_wp2_with fail
     refine HT.out.mono ?_
     rintro e w6 ⟨rfl, o6⟩
     have O6 := Lib.hid o6; clear o6
     go_wp2_with fail
     exact ⟨rfl, _, rfl, HTT.out _ _ (rfl) (O6.out)⟩
    ·intro x wx ox hN TT HTT
     have r26 : x 0 = (.bool true) := hN.1 rfl
     clear hN
     unfold StepTo
     simp only [putAll, Act.put, List.setIfInBounds_toArray, List.set_cons_succ, List.set_cons_zero, r26]
     clear r26
     go_wp2_with fail
     exact ⟨rfl, _, rfl, HTT.out _ _ (rfl) (Only.refl _ _)⟩
    ·intro x wx ox hN TT HTT
     have r27 : x 1 = (.bool true) := hN.1 rfl
     clear hN
     unfold StepTo
     simp only [putAll, Act.put, List.setIfInBounds_toArray, List.set_cons_succ, List.set_cons_zero, r27]
     clear r27
     obtain ⟨m0, m1, m2, m3, m4, m5⟩ := HX.out wx ox
     go_wp2_with fail
     exact ⟨rfl, _, rfl, HTT.out _ _ (rfl) (Only.refl _ _)⟩
    ·intro x wx ox hN TT HTT
     have r28 : x 2 = (.agg #[.string ⟨s0.toArray⟩, .slice a0 l0 c0, .bool b0]) := hN.1 rfl
     have r27 : x 1 = (.bool true) := hN.2.1 rfl
     clear hN
     unfold StepTo
     simp only [putAll, Act.put, List.setIfInBounds_toArray, List.set_cons_succ, List.set_cons_zero, r28, r27]
     clear r28 r27
     have ht := HP0.out wx ox
     have HT := Lib.hid ht; clear ht
     go_wp2_with fail
     refine HT.out.mono ?_
     rintro e w6 ⟨rfl, o6⟩
     have O6 := Lib.hid o6; clear o6
     go_wp2_with fail
     exact ⟨rfl, _, rfl, HTT.out _ _ (rfl) (O6.out)⟩
    ·intro x wx ox hN TT HTT
     have r29 : x 3 = (.bool false) := hN.1 rfl
     have r27 : x 1 = (.bool true) := hN.2.1 rfl
     clear hN
     unfold StepTo
     simp only [putAll, Act.put, List.setIfInBounds_toArray, List.set_cons_succ, List.set_cons_zero, r29, r27]
     clear r29 r27
     go_wp2_with fail
     exact ⟨rfl, _, rfl, HTT.out _ _ (rfl) (Only.refl _ _)⟩
    ·intro x wx ox hN TT HTT
     have r30 : x 4 = (.bool true) := hN.1 rfl
     have r29 : x 3 = (.bool false) := hN.2.1 rfl
     have r27 : x 1 = (.bool true) := hN.2.2.1 rfl
     clear hN
     unfold StepTo
     simp only [putAll, Act.put, List.setIfInBounds_toArray, List.set_cons_succ, List.set_cons_zero, r30, r29, r27]
     clear r30 r29 r27
     go_wp2_with fail
     exact ⟨rfl, _, rfl, HTT.out _ _ (rfl) (Only.refl _ _)⟩
    ·intro x wx ox hN TT HTT
     have r31 : x 5 = (.bool true) := hN.1 rfl
     clear hN
     unfold StepTo
     simp only [putAll, Act.put, List.setIfInBounds_toArray, List.set_cons_succ, List.set_cons_zero, r31]
     clear r31
     go_wp2_with fail
     exact ⟨rfl, _, rfl, HTT.out _ _ (rfl) (Only.refl _ _)⟩
    ·intro x wx ox hN TT HTT
     have r32 : x 6 = undef := hN.1 rfl
     have r31 : x 5 = (.bool true) := hN.2.1 rfl
     clear hN
     unfold StepTo
     simp only [putAll, Act.put, List.setIfInBounds_toArray, List.set_cons_succ, List.set_cons_zero, r32, r31]
     clear r32 r31
     go_wp2_with fail
     exact ⟨rfl, _, rfl, HTT.out _ _ (rfl) (Only.refl _ _)⟩
    ·intro x wx ox hN TT HTT
     have r33 : x 7 = undef := hN.1 rfl
     have r31 : x 5 = (.bool true) := hN.2.1 rfl
     clear hN
     unfold StepTo
     simp only [putAll, Act.put, List.setIfInBounds_toArray, List.set_cons_succ, List.set_cons_zero, r33, r31]
     clear r33 r31
     go_wp2_with fail
     exact ⟨rfl, _, rfl, HTT.out _ _ (rfl) (Only.refl _ _)⟩
    ·intro x wx ox hN TT HTT
     have r31 : x 5 = (.bool true) := hN.1 rfl
     have r34 : x 8 = undef := hN.2.1 rfl
     have r27 : x 1 = (.bool true) := hN.2.2.1 rfl
     clear hN
     unfold StepTo
     simp only [putAll, Act.put, List.setIfInBounds_toArray, List.set_cons_succ, List.set_cons_zero, r31, r34, r27]
     clear r31 r34 r27
     go_wp2_with fail
     exact ⟨rfl, _, rfl, HTT.out _ _ (rfl) (Only.refl _ _)⟩
    ·intro x wx ox hN TT HTT
     have r35 : x 9 = (.bool true) := hN.1 rfl
     have r33 : x 7 = undef := hN.2.1 rfl
     have r27 : x 1 = (.bool true) := hN.2.2.1 rfl
     clear hN
     unfold StepTo
     simp only [putAll, Act.put, List.setIfInBounds_toArray, List.set_cons_succ, List.set_cons_zero, r35, r33, r27]
     clear r35 r33 r27
     go_wp2_with fail
     exact ⟨rfl, _, rfl, HTT.out _ _ (rfl) (Only.refl _ _)⟩
    ·intro x wx ox hN TT HTT
     have r36 : x 10 = (.bool true) := hN.1 rfl
     clear hN
     unfold StepTo
     simp only [putAll, Act.put, List.setIfInBounds_toArray, List.set_cons_succ, List.set_cons_zero, r36]
     clear r36
     go_wp2_with fail
     exact ⟨rfl, _, rfl, HTT.out _ _ (rfl) (Only.refl _ _)⟩
    ·intro x wx ox hN TT HTT
     have r37 : x 11 = undef := hN.1 rfl
     have r36 : x 10 = (.bool true) := hN.2.1 rfl
     clear hN
     unfold StepTo
     simp only [putAll, Act.put, List.setIfInBounds_toArray, List.set_cons_succ, List.set_cons_zero, r37, r36]
     clear r37 r36
     go_wp2_with fail
     exact ⟨rfl, _, rfl, HTT.out _ _ (rfl) (Only.refl _ _)⟩
    ·intro x wx ox hN TT HTT
     have r36 : x 10 = (.bool true) := hN.1 rfl
     clear hN
     unfold StepTo
     simp only [putAll, Act.put, List.setIfInBounds_toArray, List.set_cons_succ, List.set_cons_zero, r36]
     clear r36
     go_wp2_with fail
     exact ⟨rfl, _, rfl, HTT.out _ _ (rfl) (Only.refl _ _)⟩
    ·intro x wx ox hN TT HTT
     have r39 : x 13 = undef := hN.1 rfl
     have r38 : x 12 = undef := hN.2.1 rfl
     have r36 : x 10 = (.bool true) := hN.2.2.1 rfl
     clear hN
     unfold StepTo
     simp only [putAll, Act.put, List.setIfInBounds_toArray, List.set_cons_succ, List.set_cons_zero, r39, r38, r36]
     clear r39 r38 r36
     go_wp2_with fail
     exact ⟨rfl, _, rfl, HTT.out _ _ (rfl) (Only.refl _ _)⟩
    ·intro x wx ox hN TT HTT
     have r38 : x 12 = undef := hN.1 rfl
     have r40 : x 14 = undef := hN.2.1 rfl
     have r36 : x 10 = (.bool true) := hN.2.2.1 rfl
     clear hN
     unfold StepTo
     simp only [putAll, Act.put, List.setIfInBounds_toArray, List.set_cons_succ, List.set_cons_zero, r38, r40, r36]
     clear r38 r40 r36
     go_wp2_with fail
     exact ⟨rfl, _, rfl, HTT.out _ _ (rfl) (Only.refl _ _)⟩
    ·intro x wx ox hN TT HTT
     have r36 : x 10 = (.bool true) := hN.1 rfl
     clear hN
     unfold StepTo
     simp only [putAll, Act.put, List.setIfInBounds_toArray, List.set_cons_succ, List.set_cons_zero, r36]
     clear r36
     go_wp2_with fail
     exact ⟨rfl, _, rfl, HTT.out _ _ (rfl) (Only.refl _ _)⟩
    ·intro x wx ox hN TT HTT
     have r36 : x 10 = (.bool true) := hN.1 rfl
     clear hN
     unfold StepTo
     simp only [putAll, Act.put, List.setIfInBounds_toArray, List.set_cons_succ, List.set_cons_zero, r36]
     clear r36
     go_wp2_with fail
     exact ⟨rfl, _, rfl, HTT.out _ _ (rfl) (Only.refl _ _)⟩
    ·intro x wx ox hN TT HTT
     have r42 : x 16 = undef := hN.1 rfl
     have r43 : x 17 = undef := hN.2.1 rfl
     have r40 : x 14 = undef := hN.2.2.1 rfl
     have r36 : x 10 = (.bool true) := hN.2.2.2.1 rfl
     clear hN
     unfold StepTo
     simp only [putAll, Act.put, List.setIfInBounds_toArray, List.set_cons_succ, List.set_cons_zero, r42, r43, r40, r36]
     clear r42 r43 r40 r36
     go_wp2_with fail
     exact ⟨rfl, _, rfl, HTT.out _ _ (rfl) (Only.refl _ _)⟩
    ·intro x wx ox hN TT HTT
     have r41 : x 15 = undef := hN.1 rfl
     have r44 : x 18 = undef := hN.2.1 rfl
     have r36 : x 10 = (.bool true) := hN.2.2.1 rfl
     clear hN
     unfold StepTo
     simp only [putAll, Act.put, List.setIfInBounds_toArray, List.set_cons_succ, List.set_cons_zero, r41, r44, r36]
     clear r41 r44 r36
     go_wp2_with fail
     exact ⟨rfl, _, rfl, HTT.out _ _ (rfl) (Only.refl _ _)⟩
    ·intro x wx ox hN TT HTT
     have r36 : x 10 = (.bool true) := hN.1 rfl
     have r45 : x 19 = undef := hN.2.1 rfl
     have r27 : x 1 = (.bool true) := hN.2.2.1 rfl
     clear hN
     unfold StepTo
     simp only [putAll, Act.put, List.setIfInBounds_toArray, List.set_cons_succ, List.set_cons_zero, r36, r45, r27]
     clear r36 r45 r27
     go_wp2_with fail
     exact ⟨rfl, _, rfl, HTT.out _ _ (rfl) (Only.refl _ _)⟩
    ·intro x wx ox hN TT HTT
     have r27 : x 1 = (.bool true) := hN.1 rfl
     have r46 : x 20 = (.bool true) := hN.2.1 rfl
     clear hN
     unfold StepTo
     simp only [putAll, Act.put, List.setIfInBounds_toArray, List.set_cons_succ, List.set_cons_zero, r27, r46]
     clear r27 r46
     go_wp2_with fail
     exact ⟨rfl, _, rfl, HTT.out _ _ (rfl) (Only.refl _ _)⟩
    intro xz wxz oxz hN
    have r26 : xz 0 = (.bool true) := hN.1
    have r27 : xz 1 = (.bool true) := hN.2.1
    have r28 : xz 2 = (.agg #[.string ⟨s0.toArray⟩, .slice a0 l0 c0, .bool b0]) := hN.2.2.1
    have r29 : xz 3 = (.bool false) := hN.2.2.2.1
    have r30 : xz 4 = (.bool true) := hN.2.2.2.2.1
    have r31 : xz 5 = (.bool true) := hN.2.2.2.2.2.1
    have r32 : xz 6 = undef := hN.2.2.2.2.2.2.1
    have r33 : xz 7 = undef := hN.2.2.2.2.2.2.2.1
    have r34 : xz 8 = undef := hN.2.2.2.2.2.2.2.2.1
    have r35 : xz 9 = (.bool true) := hN.2.2.2.2.2.2.2.2.2.1
    have r36 : xz 10 = (.bool true) := hN.2.2.2.2.2.2.2.2.2.2.1
    have r37 : xz 11 = undef := hN.2.2.2.2.2.2.2.2.2.2.2.1
    have r38 : xz 12 = undef := hN.2.2.2.2.2.2.2.2.2.2.2.2.1
    have r39 : xz 13 = undef := hN.2.2.2.2.2.2.2.2.2.2.2.2.2.1
    have r40 : xz 14 = undef := hN.2.2.2.2.2.2.2.2.2.2.2.2.2.2.1
    have r41 : xz 15 = undef := hN.2.2.2.2.2.2.2.2.2.2.2.2.2.2.2.1
    have r42 : xz 16 = undef := hN.2.2.2.2.2.2.2.2.2.2.2.2.2.2.2.2.1
    have r43 : xz 17 = undef := hN.2.2.2.2.2.2.2.2.2.2.2.2.2.2.2.2.2.1
    have r44 : xz 18 = undef := hN.2.2.2.2.2.2.2.2.2.2.2.2.2.2.2.2.2.2.1
    have r45 : xz 19 = undef := hN.2.2.2.2.2.2.2.2.2.2.2.2.2.2.2.2.2.2.2.1
    have r46 : xz 20 = (.bool true) := hN.2.2.2.2.2.2.2.2.2.2.2.2.2.2.2.2.2.2.2.2.1
    have r47 : xz 21 = (.bool true) := hN.2.2.2.2.2.2.2.2.2.2.2.2.2.2.2.2.2.2.2.2.2.1
    clear hN
    simp only [putAll, Act.put, List.setIfInBounds_toArray, List.set_cons_succ, List.set_cons_zero, r26, r27, r28, r29, r30, r31, r32, r33, r34, r35, r36, r37, r38, r39, r40, r41, r42, r43, r44, r45, r46, r47]
    clear r26 r27 r28 r29 r30 r31 r32 r33 r34 r35 r36 r37 r38 r39 r40 r41 r42 r43 r44 r45 r46 r47
    have OZ2 := Lib.hid ((Only.refl _ w3).drew.trans oxz); clear oxz
    go_wp2_with fail
    go_ret
    exact ⟨rfl, (HO3.out.trans OZ2.out).below (Nat.le_refl _) (fun _ _ h => h)⟩
   | true =>
    cases pb with
    | false =>
     refine wp_region_steps 22 (by kernel_rfl) rfl (by kernel_rfl) [some 26, some 27, some 28, some 29, some 30, some 31, some 32, some 33, some 34, some 35, some 36, some 37, some 38, some 39, some 40, some 41, some 42, some 43, some 44, some 45, some 46, some 47] rfl rfl (fun _ => False) [(fun v _ => v = (.bool true)), (fun v _ => v = (.bool true)), (fun v _ => v = (.agg #[.string ⟨s0.toArray⟩, .slice a0 l0 c0, .bool b0])), (fun v _ => v = (.bool true)), (fun v _ => v = (.bool false)), (fun v _ => v = (.bool false)), (fun v _ => v = (.agg #[.string ⟨s1.toArray⟩, .slice a1 l1 c1, .bool b1])), (fun v _ => v = (.bool false)), (fun v _ => v = (.bool true)), (fun v _ => v = (.bool true)), (fun v _ => v = (.bool true)), (fun v _ => v = undef), (fun v _ => v = undef), (fun v _ => v = undef), (fun v _ => v = undef), (fun v _ => v = undef), (fun v _ => v = undef), (fun v _ => v = undef), (fun v _ => v = undef), (fun v _ => v = undef), (fun v _ => v = (.bool true)), (fun v _ => v = (.bool true))] rfl ⟨?_, ?_, ?_, ?_, ?_, ?_, ?_, ?_, ?_, ?_, ?_, ?_, ?_, ?_, ?_, ?_, ?_, ?_, ?_, ?_, ?_, ?_, trivial⟩ _ rfl ⟨?_, ?_, ?_, ?_, ?_, ?_, ?_, ?_, ?_, ?_, ?_, ?_, ?_, ?_, ?_, ?_, ?_, ?_, ?_, ?_, ?_, ?_, trivial⟩ ?_
     ·exact Stable.is _ _
     ·exact Stable.is _ _
     ·exact Stable.is _ _
     ·exact Stable.is _ _
     ·exact Stable.is _ _
     ·exact Stable.is _ _
     ·exact Stable.is _ _
     ·exact Stable.is _ _
     ·exact Stable.is _ _
     ·exact Stable.is _ _
     ·exact Stable.is _ _
     ·exact Stable.is _ _
     ·exact Stable.is _ _
     ·exact Stable.is _ _
     ·exact Stable.is _ _
     ·exact Stable.is _ _
     ·exact Stable.is _ _
     ·exact Stable.is _ _
     ·exact Stable.is _ _
     ·exact Stable.is _ _
     ·exact Stable.is _ _
     ·exact Stable.is _ _
     ·intro x wx ox hN TT HTT
      clear hN
      unfold StepTo
      simp only [putAll, Act.put, List.setIfInBounds_toArray, List.set_cons_succ, List.set_cons_zero]
      have ht := HAW.out wx ox
      have HT := Lib.hid ht; clear ht
      go_wp2_with fail
      refine HT.out.mono ?_
      rintro e w6 ⟨rfl, o6⟩
      have O6 := Lib.hid o6; clear o6
      go_wp2_with fail
      exact ⟨rfl, _, rfl, HTT.out _ _ (rfl) (O6.out)⟩
     ·intro x wx ox hN TT HTT
      have r26 : x 0 = (.bool true) := hN.1 rfl
      clear hN
      unfold StepTo
      simp only [putAll, Act.put, List.setIfInBounds_toArray, List.set_cons_succ, List.set_cons_zero, r26]
      clear r26
      go_wp2_with fail
      exact ⟨rfl, _, rfl, HTT.out _ _ (rfl) (Only.refl _ _)⟩
     ·intro x wx ox hN TT HTT
      have r27 : x 1 = (.bool true) := hN.1 rfl
      clear hN
      unfold StepTo
      simp only [putAll, Act.put, List.setIfInBounds_toArray, List.set_cons_succ, List.set_cons_zero, r27]
      clear r27
      obtain ⟨m0, m1, m2, m3, m4, m5⟩ := HX.out wx ox
      go_wp2_with fail
      exact ⟨rfl, _, rfl, HTT.out _ _ (rfl) (Only.refl _ _)⟩
     ·intro x wx ox hN TT HTT
      have r28 : x 2 = (.agg #[.string ⟨s0.toArray⟩, .slice a0 l0 c0, .bool b0]) := hN.1 rfl
      have r27 : x 1 = (.bool true) := hN.2.1 rfl
      clear hN
      unfold StepTo
      simp only [putAll, Act.put, List.setIfInBounds_toArray, List.set_cons_succ, List.set_cons_zero, r28, r27]
      clear r28 r27
      have ht := HP0.out wx ox
      have HT := Lib.hid ht; clear ht
      go_wp2_with fail
      refine HT.out.mono ?_
      rintro e w6 ⟨rfl, o6⟩
      have O6 := Lib.hid o6; clear o6
      go_wp2_with fail
      exact ⟨rfl, _, rfl, HTT.out _ _ (rfl) (O6.out)⟩
     ·intro x wx ox hN TT HTT
      have r29 : x 3 = (.bool true) := hN.1 rfl
      have r27 : x 1 = (.bool true) := hN.2.1 rfl
      clear hN
      unfold StepTo
      simp only [putAll, Act.put, List.setIfInBounds_toArray, List.set_cons_succ, List.set_cons_zero, r29, r27]
      clear r29 r27
      go_wp2_with fail
      exact ⟨rfl, _, rfl, HTT.out _ _ (rfl) (Only.refl _ _)⟩
     ·intro x wx ox hN TT HTT
      have r30 : x 4 = (.bool false) := hN.1 rfl
      have r29 : x 3 = (.bool true) := hN.2.1 rfl
      have r27 : x 1 = (.bool true) := hN.2.2.1 rfl
      clear hN
      unfold StepTo
      simp only [putAll, Act.put, List.setIfInBounds_toArray, List.set_cons_succ, List.set_cons_zero, r30, r29, r27]
      clear r30 r29 r27
      go_wp2_with fail
      exact ⟨rfl, _, rfl, HTT.out _ _ (rfl) (Only.refl _ _)⟩
     ·intro x wx ox hN TT HTT
      have r31 : x 5 = (.bool false) := hN.1 rfl
      clear hN
      unfold StepTo
      simp only [putAll, Act.put, List.setIfInBounds_toArray, List.set_cons_succ, List.set_cons_zero, r31]
      clear r31
      obtain ⟨m0, m1, m2, m3, m4, m5⟩ := HX.out wx ox
      go_wp2_with fail
      exact ⟨rfl, _, rfl, HTT.out _ _ (rfl) (Only.refl _ _)⟩
     ·intro x wx ox hN TT HTT
      have r32 : x 6 = (.agg #[.string ⟨s1.toArray⟩, .slice a1 l1 c1, .bool b1]) := hN.1 rfl
      have r31 : x 5 = (.bool false) := hN.2.1 rfl
      clear hN
      unfold StepTo
      simp only [putAll, Act.put, List.setIfInBounds_toArray, List.set_cons_succ, List.set_cons_zero, r32, r31]
      clear r32 r31
      have ht := HP1.out wx ox
      have HT := Lib.hid ht; clear ht
      go_wp2_with fail
      refine HT.out.mono ?_
      rintro e w6 ⟨rfl, o6⟩
      have O6 := Lib.hid o6; clear o6
      go_wp2_with fail
      exact ⟨rfl, _, rfl, HTT.out _ _ (rfl) (O6.out)⟩
     ·intro x wx ox hN TT HTT
      have r33 : x 7 = (.bool false) := hN.1 rfl
      have r31 : x 5 = (.bool false) := hN.2.1 rfl
      clear hN
      unfold StepTo
      simp only [putAll, Act.put, List.setIfInBounds_toArray, List.set_cons_succ, List.set_cons_zero, r33, r31]
      clear r33 r31
      go_wp2_with fail
      exact ⟨rfl, _, rfl, HTT.out _ _ (rfl) (Only.refl _ _)⟩
     ·intro x wx ox hN TT HTT
      have r31 : x 5 = (.bool false) := hN.1 rfl
      have r34 : x 8 = (.bool true) := hN.2.1 rfl
      have r27 : x 1 = (.bool true) := hN.2.2.1 rfl
      clear hN
      unfold StepTo
      simp only [putAll, Act.put, List.setIfInBounds_toArray, List.set_cons_succ, List.set_cons_zero, r31, r34, r27]
      clear r31 r34 r27
      go_wp2_with fail
      exact ⟨rfl, _, rfl, HTT.out _ _ (rfl) (Only.refl _ _)⟩
     ·intro x wx ox hN TT HTT
      have r35 : x 9 = (.bool true) := hN.1 rfl
      have r33 : x 7 = (.bool false) := hN.2.1 rfl
      have r27 : x 1 = (.bool true) := hN.2.2.1 rfl
      clear hN
      unfold StepTo
      simp only [putAll, Act.put, List.setIfInBounds_toArray, List.set_cons_succ, List.set_cons_zero, r35, r33, r27]
      clear r35 r33 r27
      go_wp2_with fail
      exact ⟨rfl, _, rfl, HTT.out _ _ (rfl) (Only.refl _ _)⟩
     ·intro x wx ox hN TT HTT
      have r36 : x 10 = (.bool true) := hN.1 rfl
      clear hN
      unfold StepTo
      simp only [putAll, Act.put, List.setIfInBounds_toArray, List.set_cons_succ, List.set_cons_zero, r36]
      clear r36
      go_wp2_with fail
      exact ⟨rfl, _, rfl, HTT.out _ _ (rfl) (Only.refl _ _)⟩
     ·intro x wx ox hN TT HTT
      have r37 : x 11 = undef := hN.1 rfl
      have r36 : x 10 = (.bool true) := hN.2.1 rfl
      clear hN
      unfold StepTo
      simp only [putAll, Act.put, List.setIfInBounds_toArray, List.set_cons_succ, List.set_cons_zero, r37, r36]
      clear r37 r36
      go_wp2_with fail
      exact ⟨rfl, _, rfl, HTT.out _ _ (rfl) (Only.refl _ _)⟩
     ·intro x wx ox hN TT HTT
      have r36 : x 10 = (.bool true) := hN.1 rfl
      clear hN
      unfold StepTo
      simp only [putAll, Act.put, List.setIfInBounds_toArray, List.set_cons_succ, List.set_cons_zero, r36]
      clear r36
      go_wp2_with fail
      exact ⟨rfl, _, rfl, HTT.out _ _ (rfl) (Only.refl _ _)⟩
     ·intro x wx ox hN TT HTT
      have r39 : x 13 = undef := hN.1 rfl
      have r38 : x 12 = undef := hN.2.1 rfl
      have r36 : x 10 = (.bool true) := hN.2.2.1 rfl
      clear hN
      unfold StepTo
      simp only [putAll, Act.put, List.setIfInBounds_toArray, List.set_cons_succ, List.set_cons_zero, r39, r38, r36]
      clear r39 r38 r36
      go_wp2_with fail
      exact ⟨rfl, _, rfl, HTT.out _ _ (rfl) (Only.refl _ _)⟩
     ·intro x wx ox hN TT HTT
      have r38 : x 12 = undef := hN.1 rfl
      have r40 : x 14 = undef := hN.2.1 rfl
      have r36 : x 10 = (.bool true) := hN.2.2.1 rfl
      clear hN
      unfold StepTo
      simp only [putAll, Act.put, List.setIfInBounds_toArray, List.set_cons_succ, List.set_cons_zero, r38, r40, r36]
      clear r38 r40 r36
      go_wp2_with fail
      exact ⟨rfl, _, rfl, HTT.out _ _ (rfl) (Only.refl _ _)⟩
     ·intro x wx ox hN TT HTT
      have r36 : x 10 = (.bool true) := hN.1 rfl
      clear hN
      unfold StepTo
      simp only [putAll, Act.put, List.setIfInBounds_toArray, List.set_cons_succ, List.set_cons_zero, r36]
      clear r36
      go_wp2_with fail
      exact ⟨rfl, _, rfl, HTT.out _ _ (rfl) (Only.refl _ _)⟩
     ·intro x wx ox hN TT HTT
      have r36 : x 10 = (.bool true) := hN.1 rfl
      clear hN
      unfold StepTo
      simp only [putAll, Act.put, List.setIfInBounds_toArray, List.set_cons_succ, List.set_cons_zero, r36]
      clear r36
      go_wp2_with fail
      exact ⟨rfl, _, rfl, HTT.out _ _ (rfl) (Only.refl _ _)⟩
     ·intro x wx ox hN TT HTT
      have r42 : x 16 = undef := hN.1 rfl
      have r43 : x 17 = undef := hN.2.1 rfl
      have r40 : x 14 = undef := hN.2.2.1 rfl
      have r36 : x 10 = (.bool true) := hN.2.2.2.1 rfl
      clear hN
      unfold StepTo
      simp only [putAll, Act.put, List.setIfInBounds_toArray, List.set_cons_succ, List.set_cons_zero, r42, r43, r40, r36]
      clear r42 r43 r40 r36
      go_wp2_with fail
      exact ⟨rfl, _, rfl, HTT.out _ _ (rfl) (Only.refl _ _)⟩
     ·intro x wx ox hN TT HTT
      have r41 : x 15 = undef := hN.1 rfl
      have r44 : x 18 = undef := hN.2.1 rfl
      have r36 : x 10 = (.bool true) := hN.2.2.1 rfl
      clear hN
      unfold StepTo
      simp only [putAll, Act.put, List.setIfInBounds_toArray, List.set_cons_succ, List.set_cons_zero, r41, r44, r36]
      clear r41 r44 r36
      go_wp2_with fail
      exact ⟨rfl, _, rfl, HTT.out _ _ (rfl) (Only.refl _ _)⟩
     ·intro x wx ox hN TT HTT
      have r36 : x 10 = (.bool true) := hN.1 rfl
      have r45 : x 19 = undef := hN.2.1 rfl
      have r27 : x 1 = (.bool true) := hN.2.2.1 rfl
      clear hN
      unfold StepTo
      simp only [putAll, Act.put, List.setIfInBounds_toArray, List.set_cons_succ, List.set_cons_zero, r36, r45, r27]
      clear r36 r45 r27
      go_wp2_with fail
      exact ⟨rfl, _, rfl, HTT.out _ _ (rfl) (Only.refl _ _)⟩
     ·intro x wx ox hN TT HTT
      have r27 : x 1 = (.bool true) := hN.1 rfl
      have r46 : x 20 = (.bool true) := hN.2.1 rfl
      clear hN
      unfold StepTo
      simp only [putAll, Act.put, List.setIfInBounds_toArray, List.set_cons_succ, List.set_cons_zero, r27, r46]
      clear r27 r46
      go_wp2_with fail
      exact ⟨rfl, _, rfl, HTT.out _ _ (rfl) (Only.refl _ _)⟩
     intro xz wxz oxz hN
     have r26 : xz 0 = (.bool true) := hN.1
     have r27 : xz 1 = (.bool true) := hN.2.1
     have r28 : xz 2 = (.agg #[.string ⟨s0.toArray⟩, .slice a0 l0 c0, .bool b0]) := hN.2.2.1
     have r29 : xz 3 = (.bool true) := hN.2.2.2.1
     have r30 : xz 4 = (.bool false) := hN.2.2.2.2.1
     have r31 : xz 5 = (.bool false) := hN.2.2.2.2.2.1
     have r32 : xz 6 = (.agg #[.string ⟨s1.toArray⟩, .slice a1 l1 c1, .bool b1]) := hN.2.2.2.2.2.2.1
     have r33 : xz 7 = (.bool false) := hN.2.2.2.2.2.2.2.1
     have r34 : xz 8 = (.bool true) := hN.2.2.2.2.2.2.2.2.1
     have r35 : xz 9 = (.bool true) := hN.2.2.2.2.2.2.2.2.2.1
     have r36 : xz 10 = (.bool true) := hN.2.2.2.2.2.2.2.2.2.2.1
     have r37 : xz 11 = undef := hN.2.2.2.2.2.2.2.2.2.2.2.1
     have r38 : xz 12 = undef := hN.2.2.2.2.2.2.2.2.2.2.2.2.1
     have r39 : xz 13 = undef := hN.2.2.2.2.2.2.2.2.2.2.2.2.2.1
     have r40 : xz 14 = undef := hN.2.2.2.2.2.2.2.2.2.2.2.2.2.2.1
     have r41 : xz 15 = undef := hN.2.2.2.2.2.2.2.2.2.2.2.2.2.2.2.1
     have r42 : xz 16 = undef := hN.2.2.2.2.2.2.2.2.2.2.2.2.2.2.2.2.1
     have r43 : xz 17 = undef := hN.2.2.2.2.2.2.2.2.2.2.2.2.2.2.2.2.2.1
     have r44 : xz 18 = undef := hN.2.2.2.2.2.2.2.2.2.2.2.2.2.2.2.2.2.2.1
     have r45 : xz 19 = undef := hN.2.2.2.2.2.2.2.2.2.2.2.2.2.2.2.2.2.2.2.1
     have r46 : xz 20 = (.bool true) := hN.2.2.2.2.2.2.2.2.2.2.2.2.2.2.2.2.2.2.2.2.1
     have r47 : xz 21 = (.bool true) := hN.2.2.2.2.2.2.2.2.2.2.2.2.2.2.2.2.2.2.2.2.2.1
     clear hN
     simp only [putAll, Act.put, List.setIfInBounds_toArray, List.set_cons_succ, List.set_cons_zero, r26, r27, r28, r29, r30, r31, r32, r33, r34, r35, r36, r37, r38, r39, r40, r41, r42, r43, r44, r45, r46, r47]
     clear r26 r27 r28 r29 r30 r31 r32 r33 r34 r35 r36 r37 r38 r39 r40 r41 r42 r43 r44 r45 r46 r47
     have OZ2 := Lib.hid ((Only.refl _ w3).drew.trans oxz); clear oxz
     go_wp2_with fail
     go_ret
     exact ⟨rfl, (HO3.out.trans OZ2.out).below (Nat.le_refl _) (fun _ _ h => h)⟩
    | true =>
     have heq := HEQ.out rfl rfl
     cases sm with
     | false =>
      refine wp_region_steps 22 (by kernel_rfl) rfl (by kernel_rfl) [some 26, some 27, some 28, some 29, some 30, some 31, some 32, some 33, some 34, some 35, some 36, some 37, some 38, some 39, some 40, some 41, some 42, some 43, some 44, some 45, some 46, some 47] rfl rfl (fun _ => False) [(fun v _ => v = (.bool true)), (fun v _ => v = (.bool true)), (fun v _ => v = (.agg #[.string ⟨s0.toArray⟩, .slice a0 l0 c0, .bool b0])), (fun v _ => v = (.bool true)), (fun v _ => v = (.bool false)), (fun v _ => v = (.bool false)), (fun v _ => v = (.agg #[.string ⟨s1.toArray⟩, .slice a1 l1 c1, .bool b1])), (fun v _ => v = (.bool true)), (fun v _ => v = (.bool false)), (fun v _ => v = (.bool false)), (fun v _ => v = (.bool false)), (fun v _ => v = (.agg #[.string ⟨s0.toArray⟩, .slice a0 l0 c0, .bool b0])), (fun v _ => v = (.string ⟨xa.toArray⟩)), (fun v _ => v = (.agg #[.string ⟨s1.toArray⟩, .slice a1 l1 c1, .bool b1])), (fun v _ => v = (.string ⟨xb.toArray⟩)), (fun v _ => v = (.bool false)), (fun v _ => v = (.agg #[.string ⟨s0.toArray⟩, .slice a0 l0 c0, .bool b0])), (fun v _ => v = (.agg #[.string ⟨s1.toArray⟩, .slice a1 l1 c1, .bool b1])), (fun v _ => v = (.bool false)), (fun v _ => v = (.bool true)), (fun v _ => v = (.bool true)), (fun v _ => v = (.bool true))] rfl ⟨?_, ?_, ?_, ?_, ?_, ?_, ?_, ?_, ?_, ?_, ?_, ?_, ?_, ?_, ?_, ?_, ?_, ?_, ?_, ?_, ?_, ?_, trivial⟩ _ rfl ⟨?_, ?_, ?_, ?_, ?_, ?_, ?_, ?_, ?_, ?_, ?_, ?_, ?_, ?_, ?_, ?_, ?_, ?_, ?_, ?_, ?_, ?_, trivial⟩ ?_
      ·exact Stable.is _ _
      ·exact Stable.is _ _
      ·exact Stable.is _ _
      ·exact Stable.is _ _
      ·exact Stable.is _ _
      ·exact Stable.is _ _
      ·exact Stable.is _ _
      ·exact Stable.is _ _
      ·exact Stable.is _ _
      ·exact Stable.is _ _
      ·exact Stable.is _ _
      ·exact Stable.is _ _
      ·exact Stable.is _ _
      ·exact Stable.is _ _
      ·exact Stable.is _ _
      ·exact Stable.is _ _
      ·exact Stable.is _ _
      ·exact Stable.is _ _
      ·exact Stable.is _ _
      ·exact Stable.is _ _
      ·exact Stable.is _ _
      ·exact Stable.is _ _
      ·intro x wx ox hN TT HTT
       clear hN
       unfold StepTo
       simp only [putAll, Act.put, List.setIfInBounds_toArray, List.set_cons_succ, List.set_cons_zero]
       have ht := HAW.out wx ox
       have HT := Lib.hid ht; clear ht
       go_wp2_with fail
       refine HT.out.mono ?_
       rintro e w6 ⟨rfl, o6⟩
       have O6 := Lib.hid o6; clear o6
       go_wp2_with fail
       exact ⟨rfl, _, rfl, HTT.out _ _ (rfl) (O6.out)⟩
      ·intro x wx ox hN TT HTT
       have r26 : x 0 = (.bool true) := hN.1 rfl
       clear hN
       unfold StepTo
       simp only [putAll, Act.put, List.setIfInBounds_toArray, List.set_cons_succ, List.set_cons_zero, r26]
       clear r26
       go_wp2_with fail
       exact ⟨rfl, _, rfl, HTT.out _ _ (rfl) (Only.refl _ _)⟩
      ·intro x wx ox hN TT HTT
       have r27 : x 1 = (.bool true) := hN.1 rfl
       clear hN
       unfold StepTo
       simp only [putAll, Act.put, List.setIfInBounds_toArray, List.set_cons_succ, List.set_cons_zero, r27]
       clear r27
       obtain ⟨m0, m1, m2, m3, m4, m5⟩ := HX.out wx ox
       go_wp2_with fail
       exact ⟨rfl, _, rfl, HTT.out _ _ (rfl) (Only.refl _ _)⟩
      ·intro x wx ox hN TT HTT
       have r28 : x 2 = (.agg #[.string ⟨s0.toArray⟩, .slice a0 l0 c0, .bool b0]) := hN.1 rfl
       have r27 : x 1 = (.bool true) := hN.2.1 rfl
       clear hN
       unfold StepTo
       simp only [putAll, Act.put, List.setIfInBounds_toArray, List.set_cons_succ, List.set_cons_zero, r28, r27]
       clear r28 r27
       have ht := HP0.out wx ox
       have HT := Lib.hid ht; clear ht
       go_wp2_with fail
       refine HT.out.mono ?_
       rintro e w6 ⟨rfl, o6⟩
       have O6 := Lib.hid o6; clear o6
       go_wp2_with fail
       exact ⟨rfl, _, rfl, HTT.out _ _ (rfl) (O6.out)⟩
      ·intro x wx ox hN TT HTT
       have r29 : x 3 = (.bool true) := hN.1 rfl
       have r27 : x 1 = (.bool true) := hN.2.1 rfl
       clear hN
       unfold StepTo
       simp only [putAll, Act.put, List.setIfInBounds_toArray, List.set_cons_succ, List.set_cons_zero, r29, r27]
       clear r29 r27
       go_wp2_with fail
       exact ⟨rfl, _, rfl, HTT.out _ _ (rfl) (Only.refl _ _)⟩
      ·intro x wx ox hN TT HTT
       have r30 : x 4 = (.bool false) := hN.1 rfl
       have r29 : x 3 = (.bool true) := hN.2.1 rfl
       have r27 : x 1 = (.bool true) := hN.2.2.1 rfl
       clear hN
       unfold StepTo
       simp only [putAll, Act.put, List.setIfInBounds_toArray, List.set_cons_succ, List.set_cons_zero, r30, r29, r27]
       clear r30 r29 r27
       go_wp2_with fail
       exact ⟨rfl, _, rfl, HTT.out _ _ (rfl) (Only.refl _ _)⟩
      ·intro x wx ox hN TT HTT
       have r31 : x 5 = (.bool false) := hN.1 rfl
       clear hN
       unfold StepTo
       simp only [putAll, Act.put, List.setIfInBounds_toArray, List.set_cons_succ, List.set_cons_zero, r31]
       clear r31
       obtain ⟨m0, m1, m2, m3, m4, m5⟩ := HX.out wx ox
       go_wp2_with fail
       exact ⟨rfl, _, rfl, HTT.out _ _ (rfl) (Only.refl _ _)⟩
      ·intro x wx ox hN TT HTT
       have r32 : x 6 = (.agg #[.string ⟨s1.toArray⟩, .slice a1 l1 c1, .bool b1]) := hN.1 rfl
       have r31 : x 5 = (.bool false) := hN.2.1 rfl
       clear hN
       unfold StepTo
       simp only [putAll, Act.put, List.setIfInBounds_toArray, List.set_cons_succ, List.set_cons_zero, r32, r31]
       clear r32 r31
       have ht := HP1.out wx ox
       have HT := Lib.hid ht; clear ht
       go_wp2_with fail
       refine HT.out.mono ?_
       rintro e w6 ⟨rfl, o6⟩
       have O6 := Lib.hid o6; clear o6
       go_wp2_with fail
       exact ⟨rfl, _, rfl, HTT.out _ _ (rfl) (O6.out)⟩
      ·intro x wx ox hN TT HTT
       have r33 : x 7 = (.bool true) := hN.1 rfl
       have r31 : x 5 = (.bool false) := hN.2.1 rfl
       clear hN
       unfold StepTo
       simp only [putAll, Act.put, List.setIfInBounds_toArray, List.set_cons_succ, List.set_cons_zero, r33, r31]
       clear r33 r31
       go_wp2_with fail
       exact ⟨rfl, _, rfl, HTT.out _ _ (rfl) (Only.refl _ _)⟩
      ·intro x wx ox hN TT HTT
       have r31 : x 5 = (.bool false) := hN.1 rfl
       have r34 : x 8 = (.bool false) := hN.2.1 rfl
       have r27 : x 1 = (.bool true) := hN.2.2.1 rfl
       clear hN
       unfold StepTo
       simp only [putAll, Act.put, List.setIfInBounds_toArray, List.set_cons_succ, List.set_cons_zero, r31, r34, r27]
       clear r31 r34 r27
       go_wp2_with fail
       exact ⟨rfl, _, rfl, HTT.out _ _ (rfl) (Only.refl _ _)⟩
      ·intro x wx ox hN TT HTT
       have r35 : x 9 = (.bool false) := hN.1 rfl
       have r33 : x 7 = (.bool true) := hN.2.1 rfl
       have r27 : x 1 = (.bool true) := hN.2.2.1 rfl
       clear hN
       unfold StepTo
       simp only [putAll, Act.put, List.setIfInBounds_toArray, List.set_cons_succ, List.set_cons_zero, r35, r33, r27]
       clear r35 r33 r27
       go_wp2_with fail
       exact ⟨rfl, _, rfl, HTT.out _ _ (rfl) (Only.refl _ _)⟩
      ·intro x wx ox hN TT HTT
       have r36 : x 10 = (.bool false) := hN.1 rfl
       clear hN
       unfold StepTo
       simp only [putAll, Act.put, List.setIfInBounds_toArray, List.set_cons_succ, List.set_cons_zero, r36]
       clear r36
       obtain ⟨m0, m1, m2, m3, m4, m5⟩ := HX.out wx ox
       go_wp2_with fail
       exact ⟨rfl, _, rfl, HTT.out _ _ (rfl) (Only.refl _ _)⟩
      ·intro x wx ox hN TT HTT
       have r37 : x 11 = (.agg #[.string ⟨s0.toArray⟩, .slice a0 l0 c0, .bool b0]) := hN.1 rfl
       have r36 : x 10 = (.bool false) := hN.2.1 rfl
       clear hN
       unfold StepTo
       simp only [putAll, Act.put, List.setIfInBounds_toArray, List.set_cons_succ, List.set_cons_zero, r37, r36]
       clear r37 r36
       have ht := HT0.out wx ox
       have HT := Lib.hid ht; clear ht
       go_wp2_with fail
       refine HT.out.mono ?_
       rintro e w6 ⟨rfl, o6⟩
       have O6 := Lib.hid o6; clear o6
       go_wp2_with fail
       exact ⟨rfl, _, rfl, HTT.out _ _ (rfl) (O6.out)⟩
      ·intro x wx ox hN TT HTT
       have r36 : x 10 = (.bool false) := hN.1 rfl
       clear hN
       unfold StepTo
       simp only [putAll, Act.put, List.setIfInBounds_toArray, List.set_cons_succ, List.set_cons_zero, r36]
       clear r36
       obtain ⟨m0, m1, m2, m3, m4, m5⟩ := HX.out wx ox
       go_wp2_with fail
       exact ⟨rfl, _, rfl, HTT.out _ _ (rfl) (Only.refl _ _)⟩
      ·intro x wx ox hN TT HTT
       have r39 : x 13 = (.agg #[.string ⟨s1.toArray⟩, .slice a1 l1 c1, .bool b1]) := hN.1 rfl
       have r38 : x 12 = (.string ⟨xa.toArray⟩) := hN.2.1 rfl
       have r36 : x 10 = (.bool false) := hN.2.2.1 rfl
       clear hN
       unfold StepTo
       simp only [putAll, Act.put, List.setIfInBounds_toArray, List.set_cons_succ, List.set_cons_zero, r39, r38, r36]
       clear r39 r38 r36
       have ht := HT1.out wx ox
       have HT := Lib.hid ht; clear ht
       go_wp2_with fail
       refine HT.out.mono ?_
       rintro e w6 ⟨rfl, o6⟩
       have O6 := Lib.hid o6; clear o6
       go_wp2_with fail
       exact ⟨rfl, _, rfl, HTT.out _ _ (rfl) (O6.out)⟩
      ·intro x wx ox hN TT HTT
       have r38 : x 12 = (.string ⟨xa.toArray⟩) := hN.1 rfl
       have r40 : x 14 = (.string ⟨xb.toArray⟩) := hN.2.1 rfl
       have r36 : x 10 = (.bool false) := hN.2.2.1 rfl
       clear hN
       unfold StepTo
       simp only [putAll, Act.put, List.setIfInBounds_toArray, List.set_cons_succ, List.set_cons_zero, r38, r40, r36]
       clear r38 r40 r36
       go_wp2_with fail
       exact ⟨rfl, _, rfl, HTT.out _ _ (rfl) (Only.refl _ _)⟩
      ·intro x wx ox hN TT HTT
       have r36 : x 10 = (.bool false) := hN.1 rfl
       clear hN
       unfold StepTo
       simp only [putAll, Act.put, List.setIfInBounds_toArray, List.set_cons_succ, List.set_cons_zero, r36]
       clear r36
       obtain ⟨m0, m1, m2, m3, m4, m5⟩ := HX.out wx ox
       go_wp2_with fail
       exact ⟨rfl, _, rfl, HTT.out _ _ (rfl) (Only.refl _ _)⟩
      ·intro x wx ox hN TT HTT
       have r36 : x 10 = (.bool false) := hN.1 rfl
       clear hN
       unfold StepTo
       simp only [putAll, Act.put, List.setIfInBounds_toArray, List.set_cons_succ, List.set_cons_zero, r36]
       clear r36
       obtain ⟨m0, m1, m2, m3, m4, m5⟩ := HX.out wx ox
       go_wp2_with fail
       exact ⟨rfl, _, rfl, HTT.out _ _ (rfl) (Only.refl _ _)⟩
      ·intro x wx ox hN TT HTT
       have r42 : x 16 = (.agg #[.string ⟨s0.toArray⟩, .slice a0 l0 c0, .bool b0]) := hN.1 rfl
       have r43 : x 17 = (.agg #[.string ⟨s1.toArray⟩, .slice a1 l1 c1, .bool b1]) := hN.2.1 rfl
       have r40 : x 14 = (.string ⟨xb.toArray⟩) := hN.2.2.1 rfl
       have r36 : x 10 = (.bool false) := hN.2.2.2.1 rfl
       clear hN
       unfold StepTo
       simp only [putAll, Act.put, List.setIfInBounds_toArray, List.set_cons_succ, List.set_cons_zero, r42, r43, r40, r36]
       clear r42 r43 r40 r36
       have ht := HSM.out wx ox
       have HT := Lib.hid ht; clear ht
       go_wp2_with fail
       refine HT.out.mono ?_
       rintro e w6 ⟨rfl, o6⟩
       have O6 := Lib.hid o6; clear o6
       go_wp2_with fail
       exact ⟨rfl, _, rfl, HTT.out _ _ (rfl) (O6.out)⟩
      ·intro x wx ox hN TT HTT
       have r41 : x 15 = (.bool false) := hN.1 rfl
       have r44 : x 18 = (.bool false) := hN.2.1 rfl
       have r36 : x 10 = (.bool false) := hN.2.2.1 rfl
       clear hN
       unfold StepTo
       simp only [putAll, Act.put, List.setIfInBounds_toArray, List.set_cons_succ, List.set_cons_zero, r41, r44, r36]
       clear r41 r44 r36
       go_wp2_with fail
       exact ⟨rfl, _, rfl, HTT.out _ _ (rfl) (Only.refl _ _)⟩
      ·intro x wx ox hN TT HTT
       have r36 : x 10 = (.bool false) := hN.1 rfl
       have r45 : x 19 = (.bool true) := hN.2.1 rfl
       have r27 : x 1 = (.bool true) := hN.2.2.1 rfl
       clear hN
       unfold StepTo
       simp only [putAll, Act.put, List.setIfInBounds_toArray, List.set_cons_succ, List.set_cons_zero, r36, r45, r27]
       clear r36 r45 r27
       go_wp2_with fail
       exact ⟨rfl, _, rfl, HTT.out _ _ (rfl) (Only.refl _ _)⟩
      ·intro x wx ox hN TT HTT
       have r27 : x 1 = (.bool true) := hN.1 rfl
       have r46 : x 20 = (.bool true) := hN.2.1 rfl
       clear hN
       unfold StepTo
       simp only [putAll, Act.put, List.setIfInBounds_toArray, List.set_cons_succ, List.set_cons_zero, r27, r46]
       clear r27 r46
       go_wp2_with fail
       exact ⟨rfl, _, rfl, HTT.out _ _ (rfl) (Only.refl _ _)⟩
      intro xz wxz oxz hN
      have r26 : xz 0 = (.bool true) := hN.1
      have r27 : xz 1 = (.bool true) := hN.2.1
      have r28 : xz 2 = (.agg #[.string ⟨s0.toArray⟩, .slice a0 l0 c0, .bool b0]) := hN.2.2.1
      have r29 : xz 3 = (.bool true) := hN.2.2.2.1
      have r30 : xz 4 = (.bool false) := hN.2.2.2.2.1
      have r31 : xz 5 = (.bool false) := hN.2.2.2.2.2.1
      have r32 : xz 6 = (.agg #[.string ⟨s1.toArray⟩, .slice a1 l1 c1, .bool b1]) := hN.2.2.2.2.2.2.1
      have r33 : xz 7 = (.bool true) := hN.2.2.2.2.2.2.2.1
      have r34 : xz 8 = (.bool false) := hN.2.2.2.2.2.2.2.2.1
      have r35 : xz 9 = (.bool false) := hN.2.2.2.2.2.2.2.2.2.1
      have r36 : xz 10 = (.bool false) := hN.2.2.2.2.2.2.2.2.2.2.1
      have r37 : xz 11 = (.agg #[.string ⟨s0.toArray⟩, .slice a0 l0 c0, .bool b0]) := hN.2.2.2.2.2.2.2.2.2.2.2.1
      have r38 : xz 12 = (.string ⟨xa.toArray⟩) := hN.2.2.2.2.2.2.2.2.2.2.2.2.1
      have r39 : xz 13 = (.agg #[.string ⟨s1.toArray⟩, .slice a1 l1 c1, .bool b1]) := hN.2.2.2.2.2.2.2.2.2.2.2.2.2.1
      have r40 : xz 14 = (.string ⟨xb.toArray⟩) := hN.2.2.2.2.2.2.2.2.2.2.2.2.2.2.1
      have r41 : xz 15 = (.bool false) := hN.2.2.2.2.2.2.2.2.2.2.2.2.2.2.2.1
      have r42 : xz 16 = (.agg #[.string ⟨s0.toArray⟩, .slice a0 l0 c0, .bool b0]) := hN.2.2.2.2.2.2.2.2.2.2.2.2.2.2.2.2.1
      have r43 : xz 17 = (.agg #[.string ⟨s1.toArray⟩, .slice a1 l1 c1, .bool b1]) := hN.2.2.2.2.2.2.2.2.2.2.2.2.2.2.2.2.2.1
      have r44 : xz 18 = (.bool false) := hN.2.2.2.2.2.2.2.2.2.2.2.2.2.2.2.2.2.2.1
      have r45 : xz 19 = (.bool true) := hN.2.2.2.2.2.2.2.2.2.2.2.2.2.2.2.2.2.2.2.1
      have r46 : xz 20 = (.bool true) := hN.2.2.2.2.2.2.2.2.2.2.2.2.2.2.2.2.2.2.2.2.1
      have r47 : xz 21 = (.bool true) := hN.2.2.2.2.2.2.2.2.2.2.2.2.2.2.2.2.2.2.2.2.2.1
      clear hN
      simp only [putAll, Act.put, List.setIfInBounds_toArray, List.set_cons_succ, List.set_cons_zero, r26, r27, r28, r29, r30, r31, r32, r33, r34, r35, r36, r37, r38, r39, r40, r41, r42, r43, r44, r45, r46, r47]
      clear r26 r27 r28 r29 r30 r31 r32 r33 r34 r35 r36 r37 r38 r39 r40 r41 r42 r43 r44 r45 r46 r47
      have OZ2 := Lib.hid ((Only.refl _ w3).drew.trans oxz); clear oxz
      go_wp2_with fail
      go_ret
      exact ⟨rfl, (HO3.out.trans OZ2.out).below (Nat.le_refl _) (fun _ _ h => h)⟩
     | true =>
      refine wp_region_steps 22 (by kernel_rfl) rfl (by kernel_rfl) [some 26, some 27, some 28, some 29, some 30, some 31, some 32, some 33, some 34, some 35, some 36, some 37, some 38, some 39, some 40, some 41, some 42, some 43, some 44, some 45, some 46, some 47] rfl rfl (fun _ => False) [(fun v _ => v = (.bool true)), (fun v _ => v = (.bool true)), (fun v _ => v = (.agg #[.string ⟨s0.toArray⟩, .slice a0 l0 c0, .bool b0])), (fun v _ => v = (.bool true)), (fun v _ => v = (.bool false)), (fun v _ => v = (.bool false)), (fun v _ => v = (.agg #[.string ⟨s1.toArray⟩, .slice a1 l1 c1, .bool b1])), (fun v _ => v = (.bool true)), (fun v _ => v = (.bool false)), (fun v _ => v = (.bool false)), (fun v _ => v = (.bool false)), (fun v _ => v = (.agg #[.string ⟨s0.toArray⟩, .slice a0 l0 c0, .bool b0])), (fun v _ => v = (.string ⟨xa.toArray⟩)), (fun v _ => v = (.agg #[.string ⟨s1.toArray⟩, .slice a1 l1 c1, .bool b1])), (fun v _ => v = (.string ⟨xb.toArray⟩)), (fun v _ => v = (.bool true)), (fun v _ => v = (.agg #[.string ⟨s0.toArray⟩, .slice a0 l0 c0, .bool b0])), (fun v _ => v = (.agg #[.string ⟨s1.toArray⟩, .slice a1 l1 c1, .bool b1])), (fun v _ => v = (.bool true)), (fun v _ => v = (.bool true)), (fun v _ => v = (.bool true)), (fun v _ => v = (.bool true))] rfl ⟨?_, ?_, ?_, ?_, ?_, ?_, ?_, ?_, ?_, ?_, ?_, ?_, ?_, ?_, ?_, ?_, ?_, ?_, ?_, ?_, ?_, ?_, trivial⟩ _ rfl ⟨?_, ?_, ?_, ?_, ?_, ?_, ?_, ?_, ?_, ?_, ?_, ?_, ?_, ?_, ?_, ?_, ?_, ?_, ?_, ?_, ?_, ?_, trivial⟩ ?_
      ·exact Stable.is _ _
      ·exact Stable.is _ _
      ·exact Stable.is _ _
      ·exact Stable.is _ _
      ·exact Stable.is _ _
      ·exact Stable.is _ _
      ·exact Stable.is _ _
      ·exact Stable.is _ _
      ·exact Stable.is _ _
      ·exact Stable.is _ _
      ·exact Stable.is _ _
      ·exact Stable.is _ _
      ·exact Stable.is _ _
      ·exact Stable.is _ _
      ·exact Stable.is _ _
      ·exact Stable.is _ _
      ·exact Stable.is _ _
      ·exact Stable.is _ _
      ·exact Stable.is _ _
      ·exact Stable.is _ _
      ·exact Stable.is _ _
      ·exact Stable.is _ _
      ·intro x wx ox hN TT HTT
       clear hN
       unfold StepTo
       simp only [putAll, Act.put, List.setIfInBounds_toArray, List.set_cons_succ, List.set_cons_zero]
       have ht := HAW.out wx ox
       have HT := Lib.hid ht; clear ht
       go_wp2_with fail
       refine HT.out.mono ?_
       rintro e w6 ⟨rfl, o6⟩
       have O6 := Lib.hid o6; clear o6
       go_wp2_with fail
       exact ⟨rfl, _, rfl, HTT.out _ _ (rfl) (O6.out)⟩
      ·intro x wx ox hN TT HTT
       have r26 : x 0 = (.bool true) := hN.1 rfl
       clear hN
       unfold StepTo
       simp only [putAll, Act.put, List.setIfInBounds_toArray, List.set_cons_succ, List.set_cons_zero, r26]
       clear r26
       go_wp2_with fail
       exact ⟨rfl, _, rfl, HTT.out _ _ (rfl) (Only.refl _ _)⟩
      ·intro x wx ox hN TT HTT
       have r27 : x 1 = (.bool true) := hN.1 rfl
       clear hN
       unfold StepTo
       simp only [putAll, Act.put, List.setIfInBounds_toArray, List.set_cons_succ, List.set_cons_zero, r27]
       clear r27
       obtain ⟨m0, m1, m2, m3, m4, m5⟩ := HX.out wx ox
       go_wp2_with fail
       exact ⟨rfl, _, rfl, HTT.out _ _ (rfl) (Only.refl _ _)⟩
      ·intro x wx ox hN TT HTT
       have r28 : x 2 = (.agg #[.string ⟨s0.toArray⟩, .slice a0 l0 c0, .bool b0]) := hN.1 rfl
       have r27 : x 1 = (.bool true) := hN.2.1 rfl
       clear hN
       unfold StepTo
       simp only [putAll, Act.put, List.setIfInBounds_toArray, List.set_cons_succ, List.set_cons_zero, r28, r27]
       clear r28 r27
       have ht := HP0.out wx ox
       have HT := Lib.hid ht; clear ht
       go_wp2_with fail
       refine HT.out.mono ?_
       rintro e w6 ⟨rfl, o6⟩
       have O6 := Lib.hid o6; clear o6
       go_wp2_with fail
       exact ⟨rfl, _, rfl, HTT.out _ _ (rfl) (O6.out)⟩
      ·intro x wx ox hN TT HTT
       have r29 : x 3 = (.bool true) := hN.1 rfl
       have r27 : x 1 = (.bool true) := hN.2.1 rfl
       clear hN
       unfold StepTo
       simp only [putAll, Act.put, List.setIfInBounds_toArray, List.set_cons_succ, List.set_cons_zero, r29, r27]
       clear r29 r27
       go_wp2_with fail
       exact ⟨rfl, _, rfl, HTT.out _ _ (rfl) (Only.refl _ _)⟩
      ·intro x wx ox hN TT HTT
       have r30 : x 4 = (.bool false) := hN.1 rfl
       have r29 : x 3 = (.bool true) := hN.2.1 rfl
       have r27 : x 1 = (.bool true) := hN.2.2.1 rfl
       clear hN
       unfold StepTo
       simp only [putAll, Act.put, List.setIfInBounds_toArray, List.set_cons_succ, List.set_cons_zero, r30, r29, r27]
       clear r30 r29 r27
       go_wp2_with fail
       exact ⟨rfl, _, rfl, HTT.out _ _ (rfl) (Only.refl _ _)⟩
      ·intro x wx ox hN TT HTT
       have r31 : x 5 = (.bool false) := hN.1 rfl
       clear hN
       unfold StepTo
       simp only [putAll, Act.put, List.setIfInBounds_toArray, List.set_cons_succ, List.set_cons_zero, r31]
       clear r31
       obtain ⟨m0, m1, m2, m3, m4, m5⟩ := HX.out wx ox
       go_wp2_with fail
       exact ⟨rfl, _, rfl, HTT.out _ _ (rfl) (Only.refl _ _)⟩
      ·intro x wx ox hN TT HTT
       have r32 : x 6 = (.agg #[.string ⟨s1.toArray⟩, .slice a1 l1 c1, .bool b1]) := hN.1 rfl
       have r31 : x 5 = (.bool false) := hN.2.1 rfl
       clear hN
       unfold StepTo
       simp only [putAll, Act.put, List.setIfInBounds_toArray, List.set_cons_succ, List.set_cons_zero, r32, r31]
       clear r32 r31
       have ht := HP1.out wx ox
       have HT := Lib.hid ht; clear ht
       go_wp2_with fail
       refine HT.out.mono ?_
       rintro e w6 ⟨rfl, o6⟩
       have O6 := Lib.hid o6; clear o6
       go_wp2_with fail
       exact ⟨rfl, _, rfl, HTT.out _ _ (rfl) (O6.out)⟩
      ·intro x wx ox hN TT HTT
       have r33 : x 7 = (.bool true) := hN.1 rfl
       have r31 : x 5 = (.bool false) := hN.2.1 rfl
       clear hN
       unfold StepTo
       simp only [putAll, Act.put, List.setIfInBounds_toArray, List.set_cons_succ, List.set_cons_zero, r33, r31]
       clear r33 r31
       go_wp2_with fail
       exact ⟨rfl, _, rfl, HTT.out _ _ (rfl) (Only.refl _ _)⟩
      ·intro x wx ox hN TT HTT
       have r31 : x 5 = (.bool false) := hN.1 rfl
       have r34 : x 8 = (.bool false) := hN.2.1 rfl
       have r27 : x 1 = (.bool true) := hN.2.2.1 rfl
       clear hN
       unfold StepTo
       simp only [putAll, Act.put, List.setIfInBounds_toArray, List.set_cons_succ, List.set_cons_zero, r31, r34, r27]
       clear r31 r34 r27
       go_wp2_with fail
       exact ⟨rfl, _, rfl, HTT.out _ _ (rfl) (Only.refl _ _)⟩
      ·intro x wx ox hN TT HTT
       have r35 : x 9 = (.bool false) := hN.1 rfl
       have r33 : x 7 = (.bool true) := hN.2.1 rfl
       have r27 : x 1 = (.bool true) := hN.2.2.1 rfl
       clear hN
       unfold StepTo
       simp only [putAll, Act.put, List.setIfInBounds_toArray, List.set_cons_succ, List.set_cons_zero, r35, r33, r27]
       clear r35 r33 r27
       go_wp2_with fail
       exact ⟨rfl, _, rfl, HTT.out _ _ (rfl) (Only.refl _ _)⟩
      ·intro x wx ox hN TT HTT
       have r36 : x 10 = (.bool false) := hN.1 rfl
       clear hN
       unfold StepTo
       simp only [putAll, Act.put, List.setIfInBounds_toArray, List.set_cons_succ, List.set_cons_zero, r36]
       clear r36
       obtain ⟨m0, m1, m2, m3, m4, m5⟩ := HX.out wx ox
       go_wp2_with fail
       exact ⟨rfl, _, rfl, HTT.out _ _ (rfl) (Only.refl _ _)⟩
      ·intro x wx ox hN TT HTT
       have r37 : x 11 = (.agg #[.string ⟨s0.toArray⟩, .slice a0 l0 c0, .bool b0]) := hN.1 rfl
       have r36 : x 10 = (.bool false) := hN.2.1 rfl
       clear hN
       unfold StepTo
       simp only [putAll, Act.put, List.setIfInBounds_toArray, List.set_cons_succ, List.set_cons_zero, r37, r36]
       clear r37 r36
       have ht := HT0.out wx ox
       have HT := Lib.hid ht; clear ht
       go_wp2_with fail
       refine HT.out.mono ?_
       rintro e w6 ⟨rfl, o6⟩
       have O6 := Lib.hid o6; clear o6
       go_wp2_with fail
       exact ⟨rfl, _, rfl, HTT.out _ _ (rfl) (O6.out)⟩
      ·intro x wx ox hN TT HTT
       have r36 : x 10 = (.bool false) := hN.1 rfl
       clear hN
       unfold StepTo
       simp only [putAll, Act.put, List.setIfInBounds_toArray, List.set_cons_succ, List.set_cons_zero, r36]
       clear r36
       obtain ⟨m0, m1, m2, m3, m4, m5⟩ := HX.out wx ox
       go_wp2_with fail
       exact ⟨rfl, _, rfl, HTT.out _ _ (rfl) (Only.refl _ _)⟩
      ·intro x wx ox hN TT HTT
       have r39 : x 13 = (.agg #[.string ⟨s1.toArray⟩, .slice a1 l1 c1, .bool b1]) := hN.1 rfl
       have r38 : x 12 = (.string ⟨xa.toArray⟩) := hN.2.1 rfl
       have r36 : x 10 = (.bool false) := hN.2.2.1 rfl
       clear hN
       unfold StepTo
       simp only [putAll, Act.put, List.setIfInBounds_toArray, List.set_cons_succ, List.set_cons_zero, r39, r38, r36]
       clear r39 r38 r36
       have ht := HT1.out wx ox
       have HT := Lib.hid ht; clear ht
       go_wp2_with fail
       refine HT.out.mono ?_
       rintro e w6 ⟨rfl, o6⟩
       have O6 := Lib.hid o6; clear o6
       go_wp2_with fail
       exact ⟨rfl, _, rfl, HTT.out _ _ (rfl) (O6.out)⟩
      ·intro x wx ox hN TT HTT
       have r38 : x 12 = (.string ⟨xa.toArray⟩) := hN.1 rfl
       have r40 : x 14 = (.string ⟨xb.toArray⟩) := hN.2.1 rfl
       have r36 : x 10 = (.bool false) := hN.2.2.1 rfl
       clear hN
       unfold StepTo
       simp only [putAll, Act.put, List.setIfInBounds_toArray, List.set_cons_succ, List.set_cons_zero, r38, r40, r36]
       clear r38 r40 r36
       go_wp2_with fail
       exact ⟨rfl, _, rfl, HTT.out _ _ (rfl) (Only.refl _ _)⟩
      ·intro x wx ox hN TT HTT
       have r36 : x 10 = (.bool false) := hN.1 rfl
       clear hN
       unfold StepTo
       simp only [putAll, Act.put, List.setIfInBounds_toArray, List.set_cons_succ, List.set_cons_zero, r36]
       clear r36
       obtain ⟨m0, m1, m2, m3, m4, m5⟩ := HX.out wx ox
       go_wp2_with fail
       exact ⟨rfl, _, rfl, HTT.out _ _ (rfl) (Only.refl _ _)⟩
      ·intro x wx ox hN TT HTT
       have r36 : x 10 = (.bool false) := hN.1 rfl
       clear hN
       unfold StepTo
       simp only [putAll, Act.put, List.setIfInBounds_toArray, List.set_cons_succ, List.set_cons_zero, r36]
       clear r36
       obtain ⟨m0, m1, m2, m3, m4, m5⟩ := HX.out wx ox
       go_wp2_with fail
       exact ⟨rfl, _, rfl, HTT.out _ _ (rfl) (Only.refl _ _)⟩
      ·intro x wx ox hN TT HTT
       have r42 : x 16 = (.agg #[.string ⟨s0.toArray⟩, .slice a0 l0 c0, .bool b0]) := hN.1 rfl
       have r43 : x 17 = (.agg #[.string ⟨s1.toArray⟩, .slice a1 l1 c1, .bool b1]) := hN.2.1 rfl
       have r40 : x 14 = (.string ⟨xb.toArray⟩) := hN.2.2.1 rfl
       have r36 : x 10 = (.bool false) := hN.2.2.2.1 rfl
       clear hN
       unfold StepTo
       simp only [putAll, Act.put, List.setIfInBounds_toArray, List.set_cons_succ, List.set_cons_zero, r42, r43, r40, r36]
       clear r42 r43 r40 r36
       have ht := HSM.out wx ox
       have HT := Lib.hid ht; clear ht
       go_wp2_with fail
       refine HT.out.mono ?_
       rintro e w6 ⟨rfl, o6⟩
       have O6 := Lib.hid o6; clear o6
       go_wp2_with fail
       exact ⟨rfl, _, rfl, HTT.out _ _ (rfl) (O6.out)⟩
      ·intro x wx ox hN TT HTT
       have r41 : x 15 = (.bool true) := hN.1 rfl
       have r44 : x 18 = (.bool true) := hN.2.1 rfl
       have r36 : x 10 = (.bool false) := hN.2.2.1 rfl
       clear hN
       unfold StepTo
       simp only [putAll, Act.put, List.setIfInBounds_toArray, List.set_cons_succ, List.set_cons_zero, r41, r44, r36]
       clear r41 r44 r36
       go_wp2_with fail
       exact ⟨rfl, _, rfl, HTT.out _ _ (rfl) (Only.refl _ _)⟩
      ·intro x wx ox hN TT HTT
       have r36 : x 10 = (.bool false) := hN.1 rfl
       have r45 : x 19 = (.bool true) := hN.2.1 rfl
       have r27 : x 1 = (.bool true) := hN.2.2.1 rfl
       clear hN
       unfold StepTo
       simp only [putAll, Act.put, List.setIfInBounds_toArray, List.set_cons_succ, List.set_cons_zero, r36, r45, r27]
       clear r36 r45 r27
       go_wp2_with fail
       exact ⟨rfl, _, rfl, HTT.out _ _ (rfl) (Only.refl _ _)⟩
      ·intro x wx ox hN TT HTT
       have r27 : x 1 = (.bool true) := hN.1 rfl
       have r46 : x 20 = (.bool true) := hN.2.1 rfl
       clear hN
       unfold StepTo
       simp only [putAll, Act.put, List.setIfInBounds_toArray, List.set_cons_succ, List.set_cons_zero, r27, r46]
       clear r27 r46
       go_wp2_with fail
       exact ⟨rfl, _, rfl, HTT.out _ _ (rfl) (Only.refl _ _)⟩
      intro xz wxz oxz hN
      have r26 : xz 0 = (.bool true) := hN.1
      have r27 : xz 1 = (.bool true) := hN.2.1
      have r28 : xz 2 = (.agg #[.string ⟨s0.toArray⟩, .slice a0 l0 c0, .bool b0]) := hN.2.2.1
      have r29 : xz 3 = (.bool true) := hN.2.2.2.1
      have r30 : xz 4 = (.bool false) := hN.2.2.2.2.1
      have r31 : xz 5 = (.bool false) := hN.2.2.2.2.2.1
      have r32 : xz 6 = (.agg #[.string ⟨s1.toArray⟩, .slice a1 l1 c1, .bool b1]) := hN.2.2.2.2.2.2.1
      have r33 : xz 7 = (.bool true) := hN.2.2.2.2.2.2.2.1
      have r34 : xz 8 = (.bool false) := hN.2.2.2.2.2.2.2.2.1
      have r35 : xz 9 = (.bool false) := hN.2.2.2.2.2.2.2.2.2.1
      have r36 : xz 10 = (.bool false) := hN.2.2.2.2.2.2.2.2.2.2.1
      have r37 : xz 11 = (.agg #[.string ⟨s0.toArray⟩, .slice a0 l0 c0, .bool b0]) := hN.2.2.2.2.2.2.2.2.2.2.2.1
      have r38 : xz 12 = (.string ⟨xa.toArray⟩) := hN.2.2.2.2.2.2.2.2.2.2.2.2.1
      have r39 : xz 13 = (.agg #[.string ⟨s1.toArray⟩, .slice a1 l1 c1, .bool b1]) := hN.2.2.2.2.2.2.2.2.2.2.2.2.2.1
      have r40 : xz 14 = (.string ⟨xb.toArray⟩) := hN.2.2.2.2.2.2.2.2.2.2.2.2.2.2.1
      have r41 : xz 15 = (.bool true) := hN.2.2.2.2.2.2.2.2.2.2.2.2.2.2.2.1
      have r42 : xz 16 = (.agg #[.string ⟨s0.toArray⟩, .slice a0 l0 c0, .bool b0]) := hN.2.2.2.2.2.2.2.2.2.2.2.2.2.2.2.2.1
      have r43 : xz 17 = (.agg #[.string ⟨s1.toArray⟩, .slice a1 l1 c1, .bool b1]) := hN.2.2.2.2.2.2.2.2.2.2.2.2.2.2.2.2.2.1
      have r44 : xz 18 = (.bool true) := hN.2.2.2.2.2.2.2.2.2.2.2.2.2.2.2.2.2.2.1
      have r45 : xz 19 = (.bool true) := hN.2.2.2.2.2.2.2.2.2.2.2.2.2.2.2.2.2.2.2.1
      have r46 : xz 20 = (.bool true) := hN.2.2.2.2.2.2.2.2.2.2.2.2.2.2.2.2.2.2.2.2.1
      have r47 : xz 21 = (.bool true) := hN.2.2.2.2.2.2.2.2.2.2.2.2.2.2.2.2.2.2.2.2.2.1
      clear hN
      simp only [putAll, Act.put, List.setIfInBounds_toArray, List.set_cons_succ, List.set_cons_zero, r26, r27, r28, r29, r30, r31, r32, r33, r34, r35, r36, r37, r38, r39, r40, r41, r42, r43, r44, r45, r46, r47]
      clear r26 r27 r28 r29 r30 r31 r32 r33 r34 r35 r36 r37 r38 r39 r40 r41 r42 r43 r44 r45 r46 r47
      have OZ2 := Lib.hid ((Only.refl _ w3).drew.trans oxz); clear oxz
      go_wp2_with fail
      go_ret
      exact ⟨rfl, (HO3.out.trans OZ2.out).below (Nat.le_refl _) (fun _ _ h => h)⟩
end Go.Proofs.YtnkpoddbbdmipaaGreatDoor
