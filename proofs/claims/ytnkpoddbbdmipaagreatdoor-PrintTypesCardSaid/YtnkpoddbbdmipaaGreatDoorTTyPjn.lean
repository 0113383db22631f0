/- . -/
import Derived.Below
import Derived.Test.YtnkpoddbbdmipaaGreatDoorTTyEnD
import Derived.Test.YtnkpoddbbdmipaaGreatDoorTTyRgA
import Derived.Test.YtnkpoddbbdmipaaGreatDoorProg
import Derived.Deep.Cut
import Derived.Deep.CutRange
import Derived.Deep.CutBlock
import Derived.Lib.Hide
import Derived.StillTailTactics
import Derived.Deep.QuietTactic
import Derived.BigQuiet
import Derived.Test.YtnkpoddbbdmipaaGreatDoorTTyOwC
import Derived.Test.YtnkpoddbbdmipaaGreatDoorTTyShf
import Derived.Test.YtnkpoddbbdmipaaGreatDoorTTyQbl
import Derived.Test.YtnkpoddbbdmipaaGreatDoorTTyPnt
import Derived.Lib.Join
namespace Go.Proofs.YtnkpoddbbdmipaaGreatDoor
open Go Go.RowKit
open Go.Lib (hid)
set_option linter.unusedVariables false
set_option linter.unusedSimpArgs false
theorem keepc {w w' : World} {p : Addr} {v : Value} (ho : Only (fun _ => False) w w') (h : w.cell? p = some v) : w'.cell? p = some v := by
 rw [cell_keep ho (cell_lt h) (fun h => h)]; exact h
theorem rows_at {α : Type} {enc : α → List Cell} {w : World} {G : Nat → Prop} {n : Nat} {xs : List α} {v : Value} (h : CellAt w G (.row n (xs.map enc)) v) : ∃ a c, v = .slice a xs.length c ∧ xs.length ≤ c ∧ c ≤ 9223372036854775807 ∧
  ∀ i (hi : i < xs.length), ∃ g o cs, a = some ⟨g, o, none⟩ ∧ cs.length = n ∧ (∀ j u, cs[j]? = some u → w.cell? ⟨g, o + i * n + j, none⟩ = some u) ∧ CellsAt w G (enc xs[i]) cs := by
 obtain ⟨a, c, rfl, h1, h2, h3⟩ := h.rows; rw [List.length_map] at h1; refine ⟨a, c, by rw [List.length_map], h1, h2, fun i hi => ?_⟩
 obtain ⟨b, off, vs, rfl, -, -, k1, k2, k3⟩ := h3 i (by rw [List.length_map]; exact hi); rw [List.getElem_map] at k3; exact ⟨b, off, vs, rfl, k1, fun j u hu => k2 j u hu, k3⟩
theorem str_cell {w : World} {G : Nat → Prop} {s : List UInt8} {cs : List Value} (h : CellsAt w G [strC s] cs) : cs = [.string ⟨s.toArray⟩] := by
 obtain ⟨v, us, rfl, h1, h⟩ := cells_cons h; have := cells_nil h; subst this; have e1 := lit_eq h1; subst e1; rfl
theorem cells5_of {w : World} {g p : Nat} {x y z u v : Value} (h : ∀ j q, ([x, y, z, u, v] : List Value)[j]? = some q → w.cell? ⟨g, p + j, none⟩ = some q) : w.cell? ⟨g, p, none⟩ = some x ∧ w.cell? ⟨g, p + 1, none⟩ = some y ∧ w.cell? ⟨g, p + 2, none⟩ = some z ∧ w.cell? ⟨g, p + 3, none⟩ = some u ∧ w.cell? ⟨g, p + 4, none⟩ = some v :=
 ⟨h 0 x rfl, h 1 y rfl, h 2 z rfl, h 3 u rfl, h 4 v rfl⟩
theorem sizeOf_get {k : Nat} {n : Int} {s : List UInt8} {ks : List (List UInt8)} {vs : List VT} (j : Nat) (h : j < vs.length) : SizeOf.sizeOf vs[j] < SizeOf.sizeOf (VT.mk k n s ks vs) := by
 have := List.sizeOf_lt_of_mem (List.getElem_mem h); simp only [VT.mk.sizeOf_spec]; omega
def SameV (z : Nat) : Prop := ∀ (t : VT), SizeOf.sizeOf t ≤ z → ∀ (G G' : Nat → Prop) (w : World) (cs ds : List Value), CellsAt w G (valC t) cs → CellsAt w G' (valC t) ds →
  Calls Tryz.prog 52 #[.agg cs.toArray, .agg ds.toArray] w (fun e w' => e = .returned (.bool true) ∧ Only (fun _ => False) w w')
set_option maxRecDepth 100000 in
set_option maxHeartbeats 8000000 in
theorem sameV_step (z : Nat) (ih : SameV z) : SameV (z + 1) := by
 intro t ht G G' w cs ds hv hu; obtain ⟨k, n, s, ks, vs⟩ := t; obtain ⟨kv, lv, rfl, hk, hl⟩ := val_cells hv; obtain ⟨kv2, lv2, rfl, hk2, hl2⟩ := val_cells hu; obtain ⟨ak, ck, rfl, hck, hck', hK⟩ := rows_at hk; obtain ⟨ak2, ck2, rfl, hck2, hck2', hK2⟩ := rows_at hk2; obtain ⟨av, cv, rfl, hcv, hcv', hV⟩ := rows_at hl; obtain ⟨av2, cv2, rfl, hcv2, hcv2', hV2⟩ := rows_at hl2; have IH := hid ih; have HT := hid ht; obtain ⟨lv, hlv⟩ : ∃ lv, lv = vs.length := ⟨_, rfl⟩; obtain ⟨lk, hlk⟩ : ∃ lk, lk = ks.length := ⟨_, rfl⟩; rw [← hlv] at hcv hcv2 ⊢; rw [← hlk] at hck hck2 ⊢; obtain ⟨wb, hwb⟩ := eX ((w.alloc (.cells #[.int .u8 k, .int .i64 n, .string ⟨s.toArray⟩, .slice ak lk ck, .slice av lv cv] 35)).alloc (.cells #[.int .u8 k, .int .i64 n, .string ⟨s.toArray⟩, .slice ak2 lk ck2, .slice av2 lv cv2] 35)); have ob : Only (fun _ => False) w wb := by rw [← hwb]; exact ((Only.refl _ w).alloc _).alloc _
 obtain ⟨bA, hbA⟩ := eX (w.heap.size); obtain ⟨bB, hbB⟩ := eX (bA + 1); have hx1 : wb.heap[bA]? = some (.cells #[.int .u8 k, .int .i64 n, .string ⟨s.toArray⟩, .slice ak lk ck, .slice av lv cv] 35 (0, 0)) := by rw [← hwb, ← hbA]; exact heap_old (heap_new w _) _
 have hx2 : wb.heap[bB]? = some (.cells #[.int .u8 k, .int .i64 n, .string ⟨s.toArray⟩, .slice ak2 lk ck2, .slice av2 lv cv2] 35 (0, 0)) := by
  rw [← hwb, ← hbB, ← hbA]; have := heap_new (w.alloc (.cells #[.int .u8 k, .int .i64 n, .string ⟨s.toArray⟩, .slice ak lk ck, .slice av lv cv] 35)) (.cells #[.int .u8 k, .int .i64 n, .string ⟨s.toArray⟩, .slice ak2 lk ck2, .slice av2 lv cv2] 35); rw [World.size_alloc] at this; exact this
 obtain ⟨c0, c1, c2, c3, c4, -⟩ := boxN5 hx1; obtain ⟨d0, d1, d2, d3, d4, -⟩ := boxN5 hx2; have HC := hid (And.intro c3 (And.intro c4 (And.intro d3 d4))); have HLV := hid hlv; have HLK := hid hlk; have HOB := hid ob; have HWB := hid hwb; have HBA := hid hbA; have HBB := hid hbB; have HKK := hid hK; have HKK2 := hid hK2; have HVV := hid hV; have HVV2 := hid hV2; clear hx1 hx2 hK hK2 hV hV2 hk hk2 hl hl2 hv hu ob hwb hbA hbB hlv hlk ih ht
 go_enter Tryz.func52, Tryz.ntmps52
 go_upto_region 1 with (fail)
 rw [HWB.out, HBA.out, HBB.out]
 go_wp2_with fail
 clear c0 c1 c2 c3 c4 d0 d1 d2 d3 d4
 go_loopw [5] (fun v wr => ∃ i : Nat, v = .int .i64 (i : Int) ∧ i ≤ lk ∧ Hid (Only (fun _ => False) wb wr)) (fun v _ => lk - (intOf v).toNat)
 case atStart => exact ⟨0, by simp, by omega, hid oR⟩
 case round =>
  obtain ⟨i, rfl, hi, HO⟩ := hrel; obtain ⟨c3, c4, d3, d4⟩ := HC.out; have c3 := keepc HO.out c3; have d3 := keepc HO.out d3
  by_cases hlt : i < lk
  ·have t3 : decide ((i : Int) < (lk : Int)) = true := by simpa using hlt
   have hi0 : (0 : Int) ≤ (i : Int) := by omega
   have hi1 : (i : Int) < (lk : Int) := by omega
   obtain ⟨gk, ok, cs, rfl, -, hr, hc⟩ := HKK.out i (by rw [← HLK.out]; exact hlt); obtain ⟨gk2, ok2, cs2, rfl, -, hr2, hc2⟩ := HKK2.out i (by rw [← HLK.out]; exact hlt); have := str_cell hc; subst this; have := str_cell hc2; subst this; have e1 := keepc (HOB.out.trans HO.out) (hr 0 _ rfl); have e2 := keepc (HOB.out.trans HO.out) (hr2 0 _ rfl); rw [Nat.mul_one, Nat.add_zero] at e1 e2
   generalize (ks[i]'(by rw [← HLK.out]; exact hlt)) = ki at *
   have HX := hid (fun (wx : World) (ox : Only (fun _ => False) wr.drew wx) => And.intro (keepc ((Only.refl _ wr).drew.trans ox) c3) (And.intro (keepc ((Only.refl _ wr).drew.trans ox) d3) (And.intro (keepc ((Only.refl _ wr).drew.trans ox) e1) (keepc ((Only.refl _ wr).drew.trans ox) e2)))); clear hc hc2 hr hr2 e1 e2 c4 d4
   go_upto_region 6 with (fail)
   clear c3 d3; refine wp_region_steps 10 (by kernel_rfl) rfl (by kernel_rfl) [some 51, some 52, some 53, some 54, some 55, some 56, some 57, some 58, some 59, some 60] rfl rfl (fun _ => False) [(fun v _ => v = (.pointer (some ⟨bA, 3, none⟩))), (fun v _ => v = (.slice (some ⟨gk, ok, none⟩) lk ck)), (fun v _ => v = (.int .i64 (i : Int))), (fun v _ => v = (.pointer (some ⟨gk, ok + i, none⟩))), (fun v _ => v = (.string ⟨ki.toArray⟩)), (fun v _ => v = (.pointer (some ⟨bB, 3, none⟩))), (fun v _ => v = (.slice (some ⟨gk2, ok2, none⟩) lk ck2)), (fun v _ => v = (.int .i64 (i : Int))), (fun v _ => v = (.pointer (some ⟨gk2, ok2 + i, none⟩))), (fun v _ => v = (.string ⟨ki.toArray⟩))] rfl ⟨?_, ?_, ?_, ?_, ?_, ?_, ?_, ?_, ?_, ?_, trivial⟩ _ rfl ⟨?_, ?_, ?_, ?_, ?_, ?_, ?_, ?_, ?_, ?_, trivial⟩ ?_
   iterate 10 exact Stable.is _ _
   ·intro x wx ox hN TT HTT; unfold StepTo; simp only [putAll, Act.put, zA, zB, zC]; clear hN
    go_wp2_with fail
    exact ⟨rfl, _, rfl, HTT.out _ _ rfl oR⟩
   ·intro x wx ox hN TT HTT; unfold StepTo; simp only [putAll, Act.put, zA, zB, zC, eI (hN.1 rfl)]; clear hN; obtain ⟨m1, m2, m3, m4⟩ := HX.out wx ox
    go_wp2_with fail
    exact ⟨rfl, _, rfl, HTT.out _ _ rfl oR⟩
   ·intro x wx ox hN TT HTT; unfold StepTo; simp only [putAll, Act.put, zA, zB, zC]; clear hN
    go_wp2_with fail
    exact ⟨rfl, _, rfl, HTT.out _ _ rfl oR⟩
   ·intro x wx ox hN TT HTT; unfold StepTo; simp only [putAll, Act.put, zA, zB, zC, eI (hN.1 rfl), eI (hN.2.1 rfl)]; clear hN
    go_wp2_with fail
    exact ⟨rfl, _, rfl, HTT.out _ _ rfl oR⟩
   ·intro x wx ox hN TT HTT; unfold StepTo; simp only [putAll, Act.put, zA, zB, zC, eI (hN.1 rfl)]; clear hN; obtain ⟨m1, m2, m3, m4⟩ := HX.out wx ox
    go_wp2_with fail
    exact ⟨rfl, _, rfl, HTT.out _ _ rfl oR⟩
   ·intro x wx ox hN TT HTT; unfold StepTo; simp only [putAll, Act.put, zA, zB, zC]; clear hN
    go_wp2_with fail
    exact ⟨rfl, _, rfl, HTT.out _ _ rfl oR⟩
   ·intro x wx ox hN TT HTT; unfold StepTo; simp only [putAll, Act.put, zA, zB, zC, eI (hN.1 rfl)]; clear hN; obtain ⟨m1, m2, m3, m4⟩ := HX.out wx ox
    go_wp2_with fail
    exact ⟨rfl, _, rfl, HTT.out _ _ rfl oR⟩
   ·intro x wx ox hN TT HTT; unfold StepTo; simp only [putAll, Act.put, zA, zB, zC]; clear hN
    go_wp2_with fail
    exact ⟨rfl, _, rfl, HTT.out _ _ rfl oR⟩
   ·intro x wx ox hN TT HTT; unfold StepTo; simp only [putAll, Act.put, zA, zB, zC, eI (hN.1 rfl), eI (hN.2.1 rfl)]; clear hN
    go_wp2_with fail
    exact ⟨rfl, _, rfl, HTT.out _ _ rfl oR⟩
   ·intro x wx ox hN TT HTT; unfold StepTo; simp only [putAll, Act.put, zA, zB, zC, eI (hN.1 rfl)]; clear hN; obtain ⟨m1, m2, m3, m4⟩ := HX.out wx ox
    go_wp2_with fail
    exact ⟨rfl, _, rfl, HTT.out _ _ rfl oR⟩
   intro xz wxz oxz hN; simp only [putAll, Act.put, zA, zB, zC, eI hN.1, eI hN.2.1, eI hN.2.2.1, eI hN.2.2.2.1, eI hN.2.2.2.2.1, eI hN.2.2.2.2.2.1, eI hN.2.2.2.2.2.2.1, eI hN.2.2.2.2.2.2.2.1, eI hN.2.2.2.2.2.2.2.2.1, eI hN.2.2.2.2.2.2.2.2.2.1]; clear hN; have OZ := hid (HO.out.trans ((Only.refl _ wr).drew.trans oxz)); clear oxz
   go_wp2_with fail
   go_roundw
   case rel => exact ⟨i + 1, by simp [go_sem], by omega, OZ⟩
   case measure => simp [intOf]; omega
  ·have hke : i = lk := by omega
   subst hke; have t3 : decide ((i : Int) < (i : Int)) = false := by simp
   go_wp2_with fail
   clear c3 d3 c4 d4
   go_loopw [6] (fun v wr => ∃ j : Nat, v = .int .i64 (j : Int) ∧ j ≤ lv ∧ Hid (Only (fun _ => False) wb wr)) (fun v _ => lv - (intOf v).toNat)
   case atStart => exact ⟨0, by simp, by omega, HO⟩
   case round =>
    clear HO; obtain ⟨j, rfl, hj, HO⟩ := hrel; obtain ⟨c3, c4, d3, d4⟩ := HC.out; have c4 := keepc HO.out c4; have d4 := keepc HO.out d4; clear c3 d3
    by_cases hlt : j < lv
    ·have t4 : decide ((j : Int) < (lv : Int)) = true := by simpa using hlt
     have hj0 : (0 : Int) ≤ (j : Int) := by omega
     have hj1 : (j : Int) < (lv : Int) := by omega
     have hvi : j < vs.length := by rw [← HLV.out]; exact hlt
     obtain ⟨gv, ov, cs, rfl, -, hr, hc⟩ := HVV.out j hvi; obtain ⟨gv2, ov2, cs2, rfl, -, hr2, hc2⟩ := HVV2.out j hvi; have hrec := fun (wx : World) (ox : Only (fun _ => False) w wx) => IH.out vs[j] (by have h1 := sizeOf_get (k := k) (n := n) (s := s) (ks := ks) j hvi; have h2 := HT.out; omega) G G' wx _ _ (CellsAt.only ox (fun _ _ h => h) _ _ hc) (CellsAt.only ox (fun _ _ h => h) _ _ hc2)
     obtain ⟨k', n', s', ak', lk', ck', av', lv', cv', rfl⟩ := valC_form2 hc; obtain ⟨k'', n'', s'', ak'', lk'', ck'', av'', lv'', cv'', rfl⟩ := valC_form2 hc2; obtain ⟨e0, e1, e2, e3, e4⟩ := cells5_of hr; obtain ⟨f0, f1, f2, f3, f4⟩ := cells5_of hr2; have oww : Only (fun _ => False) w wr := HOB.out.trans HO.out; have HX := hid (fun (wx : World) (ox : Only (fun _ => False) wr.drew wx) => have o := (Only.refl _ wr).drew.trans ox; have ow := oww.trans o; And.intro (keepc o c4) (And.intro (keepc o d4) (And.intro (keepc ow e0) (And.intro (keepc ow e1) (And.intro (keepc ow e2) (And.intro (keepc ow e3) (And.intro (keepc ow e4) (And.intro (keepc ow f0) (And.intro (keepc ow f1) (And.intro (keepc ow f2) (And.intro (keepc ow f3) (keepc ow f4)))))))))))); have HREC := hid (fun (wx : World) (ox : Only (fun _ => False) wr.drew wx) => hrec wx (oww.trans ((Only.refl _ wr).drew.trans ox))); clear hrec hr hr2 hc hc2 e0 e1 e2 e3 e4 f0 f1 f2 f3 f4 oww
     go_upto_region 11 with (fail)
     clear c4 d4; refine wp_region_steps 11 (by kernel_rfl) rfl (by kernel_rfl) [some 69, some 70, some 71, some 72, some 73, some 74, some 75, some 76, some 77, some 78, some 79] rfl rfl (fun _ => False) [(fun v _ => v = (.pointer (some ⟨bA, 4, none⟩))), (fun v _ => v = (.slice (some ⟨gv, ov, none⟩) lv cv)), (fun v _ => v = (.int .i64 (j : Int))), (fun v _ => v = (.pointer (some ⟨gv, ov + j * 5, none⟩))), (fun v _ => v = (.agg #[.int .u8 (k' : Int), .int .i64 n', .string ⟨s'.toArray⟩, .slice ak' lk' ck', .slice av' lv' cv'])), (fun v _ => v = (.pointer (some ⟨bB, 4, none⟩))), (fun v _ => v = (.slice (some ⟨gv2, ov2, none⟩) lv cv2)), (fun v _ => v = (.int .i64 (j : Int))), (fun v _ => v = (.pointer (some ⟨gv2, ov2 + j * 5, none⟩))), (fun v _ => v = (.agg #[.int .u8 (k'' : Int), .int .i64 n'', .string ⟨s''.toArray⟩, .slice ak'' lk'' ck'', .slice av'' lv'' cv''])), (fun v _ => v = (.bool true))] rfl ⟨?_, ?_, ?_, ?_, ?_, ?_, ?_, ?_, ?_, ?_, ?_, trivial⟩ _ rfl ⟨?_, ?_, ?_, ?_, ?_, ?_, ?_, ?_, ?_, ?_, ?_, trivial⟩ ?_
     iterate 11 exact Stable.is _ _
     ·intro x wx ox hN TT HTT; unfold StepTo; simp only [putAll, Act.put, zA, zB, zC]; clear hN
      go_wp2_with fail
      exact ⟨rfl, _, rfl, HTT.out _ _ rfl oR⟩
     ·intro x wx ox hN TT HTT; unfold StepTo; simp only [putAll, Act.put, zA, zB, zC, eI (hN.1 rfl)]; clear hN; obtain ⟨m1, m2, m3, m4, m5, m6, m7, m8, m9, m10, m11, m12⟩ := HX.out wx ox
      go_wp2_with fail
      exact ⟨rfl, _, rfl, HTT.out _ _ rfl oR⟩
     ·intro x wx ox hN TT HTT; unfold StepTo; simp only [putAll, Act.put, zA, zB, zC]; clear hN
      go_wp2_with fail
      exact ⟨rfl, _, rfl, HTT.out _ _ rfl oR⟩
     ·intro x wx ox hN TT HTT; unfold StepTo; simp only [putAll, Act.put, zA, zB, zC, eI (hN.1 rfl), eI (hN.2.1 rfl)]; clear hN
      go_wp2_with fail
      exact ⟨rfl, _, rfl, HTT.out _ _ rfl oR⟩
     ·intro x wx ox hN TT HTT; unfold StepTo; simp only [putAll, Act.put, zA, zB, zC, eI (hN.1 rfl)]; clear hN; obtain ⟨m1, m2, m3, m4, m5, m6, m7, m8, m9, m10, m11, m12⟩ := HX.out wx ox
      go_wp2_with fail
      exact ⟨rfl, _, rfl, HTT.out _ _ rfl oR⟩
     ·intro x wx ox hN TT HTT; unfold StepTo; simp only [putAll, Act.put, zA, zB, zC]; clear hN
      go_wp2_with fail
      exact ⟨rfl, _, rfl, HTT.out _ _ rfl oR⟩
     ·intro x wx ox hN TT HTT; unfold StepTo; simp only [putAll, Act.put, zA, zB, zC, eI (hN.1 rfl)]; clear hN; obtain ⟨m1, m2, m3, m4, m5, m6, m7, m8, m9, m10, m11, m12⟩ := HX.out wx ox
      go_wp2_with fail
      exact ⟨rfl, _, rfl, HTT.out _ _ rfl oR⟩
     ·intro x wx ox hN TT HTT; unfold StepTo; simp only [putAll, Act.put, zA, zB, zC]; clear hN
      go_wp2_with fail
      exact ⟨rfl, _, rfl, HTT.out _ _ rfl oR⟩
     ·intro x wx ox hN TT HTT; unfold StepTo; simp only [putAll, Act.put, zA, zB, zC, eI (hN.1 rfl), eI (hN.2.1 rfl)]; clear hN
      go_wp2_with fail
      exact ⟨rfl, _, rfl, HTT.out _ _ rfl oR⟩
     ·intro x wx ox hN TT HTT; unfold StepTo; simp only [putAll, Act.put, zA, zB, zC, eI (hN.1 rfl)]; clear hN; obtain ⟨m1, m2, m3, m4, m5, m6, m7, m8, m9, m10, m11, m12⟩ := HX.out wx ox
      go_wp2_with fail
      exact ⟨rfl, _, rfl, HTT.out _ _ rfl oR⟩
     ·intro x wx ox hN TT HTT; unfold StepTo; simp only [putAll, Act.put, zA, zB, zC, eI (hN.1 rfl), eI (hN.2.1 rfl)]; clear hN; have ht := HREC.out wx ox; have HT := hid ht; clear ht
      go_wp2_with fail
      refine HT.out.mono ?_
      rintro e w6 ⟨rfl, o6⟩; have O6 := hid o6; clear o6
      go_wp2_with fail
      exact ⟨rfl, _, rfl, HTT.out _ _ rfl (O6.out)⟩
     intro xz wxz oxz hN; simp only [putAll, Act.put, zA, zB, zC, eI hN.1, eI hN.2.1, eI hN.2.2.1, eI hN.2.2.2.1, eI hN.2.2.2.2.1, eI hN.2.2.2.2.2.1, eI hN.2.2.2.2.2.2.1, eI hN.2.2.2.2.2.2.2.1, eI hN.2.2.2.2.2.2.2.2.1, eI hN.2.2.2.2.2.2.2.2.2.1, eI hN.2.2.2.2.2.2.2.2.2.2.1]; clear hN; have OZ := hid (HO.out.trans ((Only.refl _ wr).drew.trans oxz)); clear oxz
     go_wp2_with fail
     go_roundw
     case rel => exact ⟨j + 1, by simp [go_sem], by omega, OZ⟩
     case measure => simp [intOf]; omega
    ·have hke : j = lv := by omega
     subst hke; have t4 : decide ((j : Int) < (j : Int)) = false := by simp
     go_wp2_with fail
     clear c4 d4
     go_ret
     exact ⟨rfl, HOB.out.trans HO.out⟩
theorem sameV_all : ∀ z, SameV z
 | 0 => fun t ht => by exfalso; obtain ⟨k, n, s, ks, vs⟩ := t; simp only [VT.mk.sizeOf_spec] at ht; omega
 | z + 1 => sameV_step z (sameV_all z)
theorem sameV_true (t : VT) {G G' : Nat → Prop} {w : World} {cs ds : List Value} (h : CellsAt w G (valC t) cs) (h' : CellsAt w G' (valC t) ds) : Calls Tryz.prog 52 #[.agg cs.toArray, .agg ds.toArray] w (fun e w' => e = .returned (.bool true) ∧ Only (fun _ => False) w w') :=
 sameV_all _ t (Nat.le_refl _) G G' w cs ds h h'
theorem cat_list (a b : List UInt8) : (⟨a.toArray⟩ : ByteArray) ++ ⟨b.toArray⟩ = ⟨(a ++ b).toArray⟩ := by
 apply ByteArray.ext; simp
theorem Only.below {S : Nat → Prop} {w w' : World} (h : Only S w w') {B : Nat} (hB : B ≤ w.heap.size) (hS : ∀ k, k < B → ¬ S k) : Below B w w' :=
 ⟨h.os, h.tape, h.output, h.size, fun k hk => h.block k (by omega) (hS k hk)⟩
theorem Only.ofBelow {w w' : World} (h : Below w.heap.size w w') (S : Nat → Prop) : Only S w w' :=
 ⟨h.os, h.tape, h.output, h.size, fun k hk _ => h.block k hk⟩
theorem Only.alike {S : Nat → Prop} {a w w' : World} (h : Only S a w) (hk : w'.Alike w) (ht : w'.tape = w.tape) : Only S a w' :=
 ⟨hk.2.1.trans h.os, ht.trans h.tape, hk.2.2.trans h.output, by rw [hk.1]; exact h.size, fun k hk' hs => by rw [hk.1]; exact h.block k hk' hs⟩
theorem join_len (gap : List UInt8) : ∀ xs : List (List UInt8), (xs.length - 1) * gap.length ≤ (Lib.join xs gap).length
 | [] => by simp [Lib.join]
 | [x] => by simp
 | x :: y :: r => by
  have ih := join_len gap (y :: r); have e : Lib.join (x :: y :: r) gap = x ++ gap ++ Lib.join (y :: r) gap := by simp [Lib.join, List.intercalate, List.intersperse]
  rw [e, List.length_append, List.length_append]; simp only [List.length_cons] at ih ⊢; have : (r.length + 1 + 1 - 1) * gap.length = (r.length + 1 - 1) * gap.length + gap.length := by
   rw [show r.length + 1 + 1 - 1 = (r.length + 1 - 1) + 1 by omega, Nat.succ_mul]
  omega
theorem join_few {gap : List UInt8} (hg : 1 ≤ gap.length) (xs : List (List UInt8)) (hl : (Lib.join xs gap).length ≤ 1000000000000) : xs.length ≤ 1000000000001 := by
 have h := join_len gap xs; have h2 : (xs.length - 1) * 1 ≤ (xs.length - 1) * gap.length := Nat.mul_le_mul_left _ hg; omega
theorem cq5_of {w : World} {g p : Nat} {x0 x1 x2 x3 x4 : Value} (h : ∀ j q, ([x0, x1, x2, x3, x4] : List Value)[j]? = some q → w.cell? ⟨g, p + j, none⟩ = some q) : w.cell? ⟨g, p, none⟩ = some x0 ∧ w.cell? ⟨g, p + 1, none⟩ = some x1 ∧ w.cell? ⟨g, p + 2, none⟩ = some x2 ∧ w.cell? ⟨g, p + 3, none⟩ = some x3 ∧ w.cell? ⟨g, p + 4, none⟩ = some x4 := ⟨h 0 _ rfl, h 1 _ rfl, h 2 _ rfl, h 3 _ rfl, h 4 _ rfl⟩
set_option maxRecDepth 100000 in
set_option maxHeartbeats 8000000 in
theorem pjoinV_any (xs : List VT) (txt : VT → List UInt8) (G : Nat → Prop) (w : World) (v : Value) (gap : List UInt8) (hg : 1 ≤ gap.length) (h : CellAt w G (.row 5 (xs.map valC)) v)
  (hf : ∀ (i : Nat) (hi : i < xs.length) (wx : World) (cs : List Value), Only (fun _ => False) w wx → CellsAt wx G (valC xs[i]) cs → Calls Tryz.prog 18 #[.agg cs.toArray] wx (fun e w' => e = .returned (.string ⟨(txt xs[i]).toArray⟩) ∧ Only (fun _ => False) wx w'))
  (hl : (Lib.join (xs.map txt) gap).length ≤ 1000000000000) :
  Calls Tryz.prog 56 #[v, .string ⟨gap.toArray⟩, .func (.func 18) #[] #[]] w (fun e w' => e = .returned (.string ⟨(Lib.join (xs.map txt) gap).toArray⟩) ∧ Only (fun _ => False) w w') := by
 have hn := join_few hg _ hl; rw [List.length_map] at hn; obtain ⟨av, cv, rfl, hcv, hcv', hV⟩ := rows_at h; obtain ⟨L, hL⟩ := eX (xs.length); obtain ⟨R, hR⟩ := eX (Lib.join (xs.map txt) gap); have HVV := hid hV; have HF := hid hf; have HL := hid hL; have HR := hid hR; have HLEN := hid hl; rw [hL] at hcv hn ⊢; rw [hR]; clear h hV hf hL hR hl
 go_enter Tryz.func56, Tryz.ntmps56
 go_wp2_with fail
 go_loopw [7, 12] (fun x y wr => ∃ i : Nat, y = .int .i64 (i : Int) ∧ Hid (i ≤ L ∧ Only (fun _ => False) w wr ∧ wr.ownsRow w.heap.size 9 1 x i ((xs.take i).map fun z => .string ⟨(txt z).toArray⟩))) (fun _ y _ => L - (intOf y).toNat)
 case atStart => exact ⟨0, rfl, hid ⟨by omega, oR, by rw [List.take_zero]; exact own_nil _ _ _ _⟩⟩
 case round =>
  obtain ⟨i, rfl, hrel⟩ := hrel; obtain ⟨hi, ho, hown⟩ := hrel.out; obtain ⟨ax, cx, ex, k1, k2, k3⟩ := own_form hown; subst ex; have k2' : cx ≤ 9223372036854775807 := by unfold maxLen at k2; omega
  have HO := hid ho; have HOWN := hid hown; have HK3 := hid k3; clear hrel ho hown k2 k3
  by_cases hlt : i < L
  ·have t1 : decide ((i : Int) < (L : Int)) = true := decide_eq_true (by omega); have hi0 : (0 : Int) ≤ (i : Int) := by omega
   have hi1 : (i : Int) < (L : Int) := by omega
   have hvi : i < xs.length := by rw [HL.out]; exact hlt
   obtain ⟨gv, ov, cs, rfl, hgv, hr, hc⟩ := HVV.out i hvi; obtain ⟨X, hX⟩ := eX (wr.heap.size); have hfi := fun (wx : World) (ox : Only (fun _ => False) w wx) => HF.out i hvi wx cs ox (CellsAt.only ox (fun _ _ h => h) _ _ hc)
   obtain ⟨k, n, s, a1, l1, e1, a2, l2, e2, rfl⟩ := valC_form2 hc; obtain ⟨w4, hw4⟩ := eX (wr.alloc (.cells #[.int .u8 (k : Int), .int .i64 n, .string ⟨s.toArray⟩, .slice a1 l1 e1, .slice a2 l2 e2] 35)); have o4 : Only (fun _ => False) wr w4 := by rw [← hw4]; exact (Only.refl _ _).alloc _
   have hx4 : w4.heap[X]? = some (.cells #[.int .u8 (k : Int), .int .i64 n, .string ⟨s.toArray⟩, .slice a1 l1 e1, .slice a2 l2 e2] 35 (0, 0)) := by rw [← hw4, ← hX]; exact heap_new _ _
   have J := hid (hfi w4 (HO.out.trans o4)); obtain ⟨e0_, e1_, e2_, e3_, e4_⟩ := cq5_of hr; have e0_ := keepc HO.out e0_; have e1_ := keepc HO.out e1_; have e2_ := keepc HO.out e2_; have e3_ := keepc HO.out e3_; have e4_ := keepc HO.out e4_; obtain ⟨tx, htx⟩ := eX (txt xs[i]); rw [htx] at J; have HTX := hid htx; have HX := hid hX; have HW4 := hid hw4; have HO4 := hid (HO.out.trans o4); have HX4 := hid hx4; have O4 := hid o4; clear hfi hc hr hX hw4 o4 hx4 htx
   go_upto_region 5 with (fail)
   rw [HX.out, HW4.out]; clear e0_ e1_ e2_ e3_ e4_ HX HW4; obtain ⟨x0, x1, x2, x3, x4, -⟩ := boxN5 HX4.out
   go_wp2_with fail
   refine J.out.mono ?_
   rintro e w5 ⟨rfl, o5⟩; obtain ⟨G5, hG5⟩ := eX (w5.heap.size); obtain ⟨w6, hw6⟩ := eX (w5.alloc (.cells #[.string ⟨tx.toArray⟩] 9)); have o6 : Only (fun _ => False) w5 w6 := by rw [← hw6]; exact (Only.refl _ _).alloc _
   have hx6 : w6.heap[G5]? = some (.cells #[.string ⟨tx.toArray⟩] 9 (0, 0)) := by rw [← hw6, ← hG5]; exact heap_new _ _
   have o46 : Only (fun _ => False) wr w6 := (O4.out.trans o5).trans o6; have hown6 := own_only' HOWN.out o46 (fun _ _ h => h); have hys : ∀ j u, ([.string ⟨tx.toArray⟩] : List Value)[j]? = some u → w6.cell? ((⟨G5, 0, none⟩ : Addr).add j) = some u := fun j u hu => by
    match j, hu with
    | 0, hu => rw [addr_add]; simp [World.cell?, hx6]; simpa using hu
   have hB6 : w.heap.size ≤ w6.heap.size := Nat.le_trans HO.out.size o46.size; have HO6 := hid (HO.out.trans o46); have HOWN6 := hid hown6; have HYS := hid hys; have HB6 := hid hB6; have HG5 := hid hG5; have HW6 := hid hw6; clear o5 o6 hx6 o46 hown6 hys hB6 hG5 hw6 x0 x1 x2 x3 x4
   go_wp2_with ((rw [HG5.out, HW6.out]; refine wpList_append_own2 (o := ⟨some 21, _, _, _, _, _⟩) rfl (.tmp 16) (.tmp 20) 32 9 (by rfl) Tryz.underlying32 infoStrQ rfl (by decide) w.heap.size (.slice ax i cx) i 1 1 ((xs.take i).map fun z => .string ⟨(txt z).toArray⟩) [.string ⟨tx.toArray⟩] ⟨G5, 0, none⟩ (by rfl) (by rfl) HOWN6.out (by rfl) HYS.out (by intro u hu; simp at hu; subst hu; rfl) (by unfold maxLen; omega) (by omega) HB6.out ?_; intro v' w9 q1 q2 q3))
   have hoo : Only (fun _ => False) w w9 := HO6.out.trans' q2 (fun q hq h => by have := (HK3.out q h).1; omega); have hrow : w9.ownsRow w.heap.size 9 1 v' (i + 1) ((xs.take (i + 1)).map fun z => .string ⟨(txt z).toArray⟩) := by
    rw [List.take_succ_eq_append_getElem hvi, List.map_append, List.map_singleton, HTX.out]; exact q1
   have HNEW := hid (And.intro (show i + 1 ≤ L by omega) (And.intro hoo hrow)); clear q1 q2 q3 hoo hrow
   go_wp2_with fail
   go_roundw
   case rel => exact ⟨i + 1, by simp, HNEW⟩
   case measure => simp [intOf]; omega
  ·have t1 : decide ((i : Int) < (L : Int)) = false := decide_eq_false (by omega); have hiL : i = L := by omega
   subst hiL
   by_cases h0 : i = 0
   ·subst h0; have J := hid (Tryz.strings_Join_none ax cx ⟨gap.toArray⟩ wr); have hre : R = [] := by
     rw [← HR.out, List.eq_nil_of_length_eq_zero HL.out]; rfl
    have HRE := hid hre; clear hre
    go_wp2_with fail
    refine J.out.mono ?_
    rintro e w9 ⟨rfl, rfl⟩
    go_wp2_with fail
    go_ret
    exact ⟨by rw [HRE.out]; rfl, HO.out⟩
   ·obtain ⟨g2, c2, e2, hBg, hgw, hrg⟩ := own_range HOWN.out (by omega)
    injection e2 with e2 e2' e2''
    subst e2; have hlen2 : ((xs.map fun z => (⟨(txt z).toArray⟩ : ByteArray)).length) = i := by rw [List.length_map, HL.out]
    have hdat : (xs.map fun z => (⟨(txt z).toArray⟩ : ByteArray)).map (·.data.toList) = xs.map txt := by rw [List.map_map]; exact List.map_congr_left (fun z _ => rfl)
    have htk : xs.take i = xs := by rw [← HL.out]; exact List.take_length
    have J := Tryz.strings_Join g2 0 cx (xs.map fun z => (⟨(txt z).toArray⟩ : ByteArray)) ⟨gap.toArray⟩ wr (fun j x hj => by
     rw [List.getElem?_map] at hj; obtain ⟨z, hz, rfl⟩ : ∃ z, xs[j]? = some z ∧ (⟨(txt z).toArray⟩ : ByteArray) = x := by
      cases hq : xs[j]? with
      | none => rw [hq] at hj; cases hj
      | some z => rw [hq] at hj; injection hj with hj; exact ⟨z, rfl, hj⟩
     exact hrg j _ (by rw [htk, List.getElem?_map, hz]; rfl)) hgw (by rw [hlen2]; omega) (by rw [hlen2]; omega) (by rw [hdat]; show (Lib.join _ gap).length ≤ _; have := HLEN.out; omega)
    rw [hlen2, hdat] at J; have J : Calls Tryz.prog 48 #[.slice (some ⟨g2, 0, none⟩) i cx, .string ⟨gap.toArray⟩] wr fun e w' => e = .returned (.string ⟨(Lib.join (xs.map txt) gap).toArray⟩) ∧ Below wr.heap.size wr w' := J
    rw [HR.out] at J; have J := hid J; clear hlen2 hdat htk hrg e2' e2''
    go_wp2_with fail
    refine J.out.mono ?_
    rintro e w9 ⟨rfl, ob⟩; have HO9 := hid (HO.out.trans (Only.ofBelow ob _)); clear ob
    go_wp2_with fail
    go_ret
    exact ⟨rfl, HO9.out⟩
end Go.Proofs.YtnkpoddbbdmipaaGreatDoor
