/- The document's Same: a value is the same as itself, wherever it lies. -/
import Derived.Test.YtgephneppgcnlaaGreatDoorEnD
import Derived.Test.YtgephneppgcnlaaGreatDoorRgA
import Derived.Test.YtgephneppgcnlaaGreatDoorProg
import Derived.Deep.Cut
import Derived.Deep.CutRange
import Derived.Deep.CutBlock
import Derived.Lib.Hide
import Derived.StillTailTactics
import Derived.Deep.QuietTactic
import Derived.BigQuiet
namespace Go.Proofs.YtgephneppgcnlaaGreatDoor
open Go Go.RowKit
set_option linter.unusedVariables false
set_option linter.unusedSimpArgs false

theorem keepc {w w' : World} {p : Addr} {v : Value} (ho : Only (fun _ => False) w w') (h : w.cell? p = some v) : w'.cell? p = some v := by
  rw [cell_keep ho (cell_lt h) (fun h => h)]; exact h
/-- A slice of things: its form, and each of them. -/
theorem rows_at {α : Type} {enc : α → List Cell} {w : World} {G : Nat → Prop} {n : Nat} {xs : List α} {v : Value} (h : CellAt w G (.row n (xs.map enc)) v) : ∃ a c, v = .slice a xs.length c ∧ xs.length ≤ c ∧ c ≤ 9223372036854775807 ∧
    ∀ i (hi : i < xs.length), ∃ g o cs, a = some ⟨g, o, none⟩ ∧ cs.length = n ∧ (∀ j u, cs[j]? = some u → w.cell? ⟨g, o + i * n + j, none⟩ = some u) ∧ CellsAt w G (enc xs[i]) cs := by
  obtain ⟨a, c, rfl, h1, h2, h3⟩ := h.rows
  rw [List.length_map] at h1
  refine ⟨a, c, by rw [List.length_map], h1, h2, fun i hi => ?_⟩
  obtain ⟨b, off, vs, rfl, -, -, k1, k2, k3⟩ := h3 i (by rw [List.length_map]; exact hi)
  rw [List.getElem_map] at k3
  exact ⟨b, off, vs, rfl, k1, fun j u hu => k2 j u hu, k3⟩
theorem str_cell {w : World} {G : Nat → Prop} {s : List UInt8} {cs : List Value} (h : CellsAt w G [strC s] cs) : cs = [.string ⟨s.toArray⟩] := by
  obtain ⟨v, us, rfl, h1, h⟩ := cells_cons h
  have := cells_nil h; subst this
  have e1 := lit_eq h1; subst e1; rfl
theorem cells5_of {w : World} {g p : Nat} {x y z u v : Value} (h : ∀ j q, ([x, y, z, u, v] : List Value)[j]? = some q → w.cell? ⟨g, p + j, none⟩ = some q) : w.cell? ⟨g, p, none⟩ = some x ∧ w.cell? ⟨g, p + 1, none⟩ = some y ∧ w.cell? ⟨g, p + 2, none⟩ = some z ∧ w.cell? ⟨g, p + 3, none⟩ = some u ∧ w.cell? ⟨g, p + 4, none⟩ = some v :=
  ⟨h 0 x rfl, h 1 y rfl, h 2 z rfl, h 3 u rfl, h 4 v rfl⟩
theorem sizeOf_get {k : Nat} {n : Int} {s : List UInt8} {ks : List (List UInt8)} {vs : List VT} (j : Nat) (h : j < vs.length) : SizeOf.sizeOf vs[j] < SizeOf.sizeOf (VT.mk k n s ks vs) := by
  have := List.sizeOf_lt_of_mem (List.getElem_mem h)
  simp only [VT.mk.sizeOf_spec]; omega
def SameV (z : Nat) : Prop := ∀ (t : VT), SizeOf.sizeOf t ≤ z → ∀ (G G' : Nat → Prop) (w : World) (cs ds : List Value), CellsAt w G (valC t) cs → CellsAt w G' (valC t) ds →
    Calls Tryz.prog 57 #[.agg cs.toArray, .agg ds.toArray] w (fun e w' => e = .returned (.bool true) ∧ Only (fun _ => False) w w')
set_option maxRecDepth 100000 in
set_option maxHeartbeats 8000000 in
theorem sameV_step (z : Nat) (ih : SameV z) : SameV (z + 1) := by
  intro t ht G G' w cs ds hv hu
  obtain ⟨k, n, s, ks, vs⟩ := t
  obtain ⟨kv, lv, rfl, hk, hl⟩ := val_cells hv
  obtain ⟨kv2, lv2, rfl, hk2, hl2⟩ := val_cells hu
  obtain ⟨ak, ck, rfl, hck, hck', hK⟩ := rows_at hk
  obtain ⟨ak2, ck2, rfl, hck2, hck2', hK2⟩ := rows_at hk2
  obtain ⟨av, cv, rfl, hcv, hcv', hV⟩ := rows_at hl
  obtain ⟨av2, cv2, rfl, hcv2, hcv2', hV2⟩ := rows_at hl2
  have IH := Lib.hid ih; have HT := Lib.hid ht
  obtain ⟨lv, hlv⟩ : ∃ lv, lv = vs.length := ⟨_, rfl⟩
  obtain ⟨lk, hlk⟩ : ∃ lk, lk = ks.length := ⟨_, rfl⟩
  rw [← hlv] at hcv hcv2 ⊢
  rw [← hlk] at hck hck2 ⊢
  obtain ⟨wb, hwb⟩ : ∃ wb, (w.alloc (.cells #[.int .u8 k, .int .i64 n, .string ⟨s.toArray⟩, .slice ak lk ck, .slice av lv cv] 37)).alloc (.cells #[.int .u8 k, .int .i64 n, .string ⟨s.toArray⟩, .slice ak2 lk ck2, .slice av2 lv cv2] 37) = wb := ⟨_, rfl⟩
  have ob : Only (fun _ => False) w wb := by rw [← hwb]; exact ((Only.refl _ w).alloc _).alloc _
  obtain ⟨bA, hbA⟩ : ∃ b, w.heap.size = b := ⟨_, rfl⟩
  obtain ⟨bB, hbB⟩ : ∃ b, bA + 1 = b := ⟨_, rfl⟩
  have hx1 : wb.heap[bA]? = some (.cells #[.int .u8 k, .int .i64 n, .string ⟨s.toArray⟩, .slice ak lk ck, .slice av lv cv] 37 (0, 0)) := by rw [← hwb, ← hbA]; exact heap_old (heap_new w _) _
  have hx2 : wb.heap[bB]? = some (.cells #[.int .u8 k, .int .i64 n, .string ⟨s.toArray⟩, .slice ak2 lk ck2, .slice av2 lv cv2] 37 (0, 0)) := by
    rw [← hwb, ← hbB, ← hbA]
    have := heap_new (w.alloc (.cells #[.int .u8 k, .int .i64 n, .string ⟨s.toArray⟩, .slice ak lk ck, .slice av lv cv] 37)) (.cells #[.int .u8 k, .int .i64 n, .string ⟨s.toArray⟩, .slice ak2 lk ck2, .slice av2 lv cv2] 37)
    rw [World.size_alloc] at this; exact this
  obtain ⟨c0, c1, c2, c3, c4, -⟩ := boxN5 hx1
  obtain ⟨d0, d1, d2, d3, d4, -⟩ := boxN5 hx2
  have HC := Lib.hid (And.intro c3 (And.intro c4 (And.intro d3 d4)))
  have HLV := Lib.hid hlv; have HLK := Lib.hid hlk; have HOB := Lib.hid ob; have HWB := Lib.hid hwb; have HBA := Lib.hid hbA; have HBB := Lib.hid hbB
  have HKK := Lib.hid hK; have HKK2 := Lib.hid hK2; have HVV := Lib.hid hV; have HVV2 := Lib.hid hV2
  clear hx1 hx2 hK hK2 hV hV2 hk hk2 hl hl2 hv hu ob hwb hbA hbB hlv hlk ih ht
  go_enter Tryz.func57, Tryz.ntmps57
  go_upto_region 1 with (fail)
  rw [HWB.out, HBA.out, HBB.out]
  go_wp2_with fail
  clear c0 c1 c2 c3 c4 d0 d1 d2 d3 d4
  go_loopw [5] (fun v wr => ∃ i : Nat, v = .int .i64 (i : Int) ∧ i ≤ lk ∧ Hid (Only (fun _ => False) wb wr)) (fun v _ => lk - (intOf v).toNat)
  case atStart => exact ⟨0, by simp, by omega, Lib.hid (Only.refl _ _)⟩
  case round =>
    obtain ⟨i, rfl, hi, HO⟩ := hrel
    obtain ⟨c3, c4, d3, d4⟩ := HC.out
    have c3 := keepc HO.out c3
    have d3 := keepc HO.out d3
    by_cases hlt : i < lk
    · have t3 : decide ((i : Int) < (lk : Int)) = true := by simpa using hlt
      have hi0 : (0 : Int) ≤ (i : Int) := by omega
      have hi1 : (i : Int) < (lk : Int) := by omega
      obtain ⟨gk, ok, cs, rfl, -, hr, hc⟩ := HKK.out i (by rw [← HLK.out]; exact hlt)
      obtain ⟨gk2, ok2, cs2, rfl, -, hr2, hc2⟩ := HKK2.out i (by rw [← HLK.out]; exact hlt)
      have := str_cell hc; subst this
      have := str_cell hc2; subst this
      have e1 := keepc (HOB.out.trans HO.out) (hr 0 _ rfl)
      have e2 := keepc (HOB.out.trans HO.out) (hr2 0 _ rfl)
      rw [Nat.mul_one, Nat.add_zero] at e1 e2
      generalize (ks[i]'(by rw [← HLK.out]; exact hlt)) = ki at *
      have HX := Lib.hid (fun (wx : World) (ox : Only (fun _ => False) wr.drew wx) => And.intro (keepc ((Only.refl _ wr).drew.trans ox) c3) (And.intro (keepc ((Only.refl _ wr).drew.trans ox) d3) (And.intro (keepc ((Only.refl _ wr).drew.trans ox) e1) (keepc ((Only.refl _ wr).drew.trans ox) e2))))
      clear hc hc2 hr hr2 e1 e2 c4 d4
      go_upto_region 6 with (fail)
      clear c3 d3
      refine wp_region_steps 10 (by kernel_rfl) rfl (by kernel_rfl) [some 51, some 52, some 53, some 54, some 55, some 56, some 57, some 58, some 59, some 60] rfl rfl (fun _ => False) [(fun v _ => v = (.pointer (some ⟨bA, 3, none⟩))), (fun v _ => v = (.slice (some ⟨gk, ok, none⟩) lk ck)), (fun v _ => v = (.int .i64 (i : Int))), (fun v _ => v = (.pointer (some ⟨gk, ok + i, none⟩))), (fun v _ => v = (.string ⟨ki.toArray⟩)), (fun v _ => v = (.pointer (some ⟨bB, 3, none⟩))), (fun v _ => v = (.slice (some ⟨gk2, ok2, none⟩) lk ck2)), (fun v _ => v = (.int .i64 (i : Int))), (fun v _ => v = (.pointer (some ⟨gk2, ok2 + i, none⟩))), (fun v _ => v = (.string ⟨ki.toArray⟩))] rfl ⟨?_, ?_, ?_, ?_, ?_, ?_, ?_, ?_, ?_, ?_, trivial⟩ _ rfl ⟨?_, ?_, ?_, ?_, ?_, ?_, ?_, ?_, ?_, ?_, trivial⟩ ?_
      · exact Stable.is _ _
      · exact Stable.is _ _
      · exact Stable.is _ _
      · exact Stable.is _ _
      · exact Stable.is _ _
      · exact Stable.is _ _
      · exact Stable.is _ _
      · exact Stable.is _ _
      · exact Stable.is _ _
      · exact Stable.is _ _
      · intro x wx ox hN TT HTT
        clear hN
        unfold StepTo
        simp only [putAll, Act.put, List.setIfInBounds_toArray, List.set_cons_succ, List.set_cons_zero]
        go_wp2_with fail
        exact ⟨rfl, _, rfl, HTT.out _ _ (rfl) (Only.refl _ _)⟩
      · intro x wx ox hN TT HTT
        have r51 : x 0 = (.pointer (some ⟨bA, 3, none⟩)) := hN.1 rfl
        clear hN
        unfold StepTo
        simp only [putAll, Act.put, List.setIfInBounds_toArray, List.set_cons_succ, List.set_cons_zero, r51]
        clear r51
        obtain ⟨m1, m2, m3, m4⟩ := HX.out wx ox
        go_wp2_with fail
        exact ⟨rfl, _, rfl, HTT.out _ _ (rfl) (Only.refl _ _)⟩
      · intro x wx ox hN TT HTT
        clear hN
        unfold StepTo
        simp only [putAll, Act.put, List.setIfInBounds_toArray, List.set_cons_succ, List.set_cons_zero]
        go_wp2_with fail
        exact ⟨rfl, _, rfl, HTT.out _ _ (rfl) (Only.refl _ _)⟩
      · intro x wx ox hN TT HTT
        have r52 : x 1 = (.slice (some ⟨gk, ok, none⟩) lk ck) := hN.1 rfl
        have r53 : x 2 = (.int .i64 (i : Int)) := hN.2.1 rfl
        clear hN
        unfold StepTo
        simp only [putAll, Act.put, List.setIfInBounds_toArray, List.set_cons_succ, List.set_cons_zero, r52, r53]
        clear r52 r53
        go_wp2_with fail
        exact ⟨rfl, _, rfl, HTT.out _ _ (rfl) (Only.refl _ _)⟩
      · intro x wx ox hN TT HTT
        have r54 : x 3 = (.pointer (some ⟨gk, ok + i, none⟩)) := hN.1 rfl
        clear hN
        unfold StepTo
        simp only [putAll, Act.put, List.setIfInBounds_toArray, List.set_cons_succ, List.set_cons_zero, r54]
        clear r54
        obtain ⟨m1, m2, m3, m4⟩ := HX.out wx ox
        go_wp2_with fail
        exact ⟨rfl, _, rfl, HTT.out _ _ (rfl) (Only.refl _ _)⟩
      · intro x wx ox hN TT HTT
        clear hN
        unfold StepTo
        simp only [putAll, Act.put, List.setIfInBounds_toArray, List.set_cons_succ, List.set_cons_zero]
        go_wp2_with fail
        exact ⟨rfl, _, rfl, HTT.out _ _ (rfl) (Only.refl _ _)⟩
      · intro x wx ox hN TT HTT
        have r56 : x 5 = (.pointer (some ⟨bB, 3, none⟩)) := hN.1 rfl
        clear hN
        unfold StepTo
        simp only [putAll, Act.put, List.setIfInBounds_toArray, List.set_cons_succ, List.set_cons_zero, r56]
        clear r56
        obtain ⟨m1, m2, m3, m4⟩ := HX.out wx ox
        go_wp2_with fail
        exact ⟨rfl, _, rfl, HTT.out _ _ (rfl) (Only.refl _ _)⟩
      · intro x wx ox hN TT HTT
        clear hN
        unfold StepTo
        simp only [putAll, Act.put, List.setIfInBounds_toArray, List.set_cons_succ, List.set_cons_zero]
        go_wp2_with fail
        exact ⟨rfl, _, rfl, HTT.out _ _ (rfl) (Only.refl _ _)⟩
      · intro x wx ox hN TT HTT
        have r57 : x 6 = (.slice (some ⟨gk2, ok2, none⟩) lk ck2) := hN.1 rfl
        have r58 : x 7 = (.int .i64 (i : Int)) := hN.2.1 rfl
        clear hN
        unfold StepTo
        simp only [putAll, Act.put, List.setIfInBounds_toArray, List.set_cons_succ, List.set_cons_zero, r57, r58]
        clear r57 r58
        go_wp2_with fail
        exact ⟨rfl, _, rfl, HTT.out _ _ (rfl) (Only.refl _ _)⟩
      · intro x wx ox hN TT HTT
        have r59 : x 8 = (.pointer (some ⟨gk2, ok2 + i, none⟩)) := hN.1 rfl
        clear hN
        unfold StepTo
        simp only [putAll, Act.put, List.setIfInBounds_toArray, List.set_cons_succ, List.set_cons_zero, r59]
        clear r59
        obtain ⟨m1, m2, m3, m4⟩ := HX.out wx ox
        go_wp2_with fail
        exact ⟨rfl, _, rfl, HTT.out _ _ (rfl) (Only.refl _ _)⟩
      intro xz wxz oxz hN
      have r51 : xz 0 = (.pointer (some ⟨bA, 3, none⟩)) := hN.1
      have r52 : xz 1 = (.slice (some ⟨gk, ok, none⟩) lk ck) := hN.2.1
      have r53 : xz 2 = (.int .i64 (i : Int)) := hN.2.2.1
      have r54 : xz 3 = (.pointer (some ⟨gk, ok + i, none⟩)) := hN.2.2.2.1
      have r55 : xz 4 = (.string ⟨ki.toArray⟩) := hN.2.2.2.2.1
      have r56 : xz 5 = (.pointer (some ⟨bB, 3, none⟩)) := hN.2.2.2.2.2.1
      have r57 : xz 6 = (.slice (some ⟨gk2, ok2, none⟩) lk ck2) := hN.2.2.2.2.2.2.1
      have r58 : xz 7 = (.int .i64 (i : Int)) := hN.2.2.2.2.2.2.2.1
      have r59 : xz 8 = (.pointer (some ⟨gk2, ok2 + i, none⟩)) := hN.2.2.2.2.2.2.2.2.1
      have r60 : xz 9 = (.string ⟨ki.toArray⟩) := hN.2.2.2.2.2.2.2.2.2.1
      clear hN
      simp only [putAll, Act.put, List.setIfInBounds_toArray, List.set_cons_succ, List.set_cons_zero, r51, r52, r53, r54, r55, r56, r57, r58, r59, r60]
      clear r51 r52 r53 r54 r55 r56 r57 r58 r59 r60
      have OZ := Lib.hid (HO.out.trans ((Only.refl _ wr).drew.trans oxz)); clear oxz
      go_wp2_with fail
      go_roundw
      case rel => exact ⟨i + 1, by simp [go_sem], by omega, OZ⟩
      case measure => simp [intOf]; omega
    · have hke : i = lk := by omega
      subst hke
      have t3 : decide ((i : Int) < (i : Int)) = false := by simp
      go_wp2_with fail
      clear c3 d3 c4 d4
      go_loopw [6] (fun v wr => ∃ j : Nat, v = .int .i64 (j : Int) ∧ j ≤ lv ∧ Hid (Only (fun _ => False) wb wr)) (fun v _ => lv - (intOf v).toNat)
      case atStart => exact ⟨0, by simp, by omega, HO⟩
      case round =>
        clear HO
        obtain ⟨j, rfl, hj, HO⟩ := hrel
        obtain ⟨c3, c4, d3, d4⟩ := HC.out
        have c4 := keepc HO.out c4
        have d4 := keepc HO.out d4
        clear c3 d3
        by_cases hlt : j < lv
        · have t4 : decide ((j : Int) < (lv : Int)) = true := by simpa using hlt
          have hj0 : (0 : Int) ≤ (j : Int) := by omega
          have hj1 : (j : Int) < (lv : Int) := by omega
          have hvi : j < vs.length := by rw [← HLV.out]; exact hlt
          obtain ⟨gv, ov, cs, rfl, -, hr, hc⟩ := HVV.out j hvi
          obtain ⟨gv2, ov2, cs2, rfl, -, hr2, hc2⟩ := HVV2.out j hvi
          have hrec := fun (wx : World) (ox : Only (fun _ => False) w wx) => IH.out vs[j] (by have h1 := sizeOf_get (k := k) (n := n) (s := s) (ks := ks) j hvi; have h2 := HT.out; omega) G G' wx _ _ (CellsAt.only ox (fun _ _ h => h) _ _ hc) (CellsAt.only ox (fun _ _ h => h) _ _ hc2)
          obtain ⟨k', n', s', ak', lk', ck', av', lv', cv', rfl⟩ := valC_form2 hc
          obtain ⟨k'', n'', s'', ak'', lk'', ck'', av'', lv'', cv'', rfl⟩ := valC_form2 hc2
          obtain ⟨e0, e1, e2, e3, e4⟩ := cells5_of hr
          obtain ⟨f0, f1, f2, f3, f4⟩ := cells5_of hr2
          have oww : Only (fun _ => False) w wr := HOB.out.trans HO.out
          have HX := Lib.hid (fun (wx : World) (ox : Only (fun _ => False) wr.drew wx) => have o := (Only.refl _ wr).drew.trans ox; have ow := oww.trans o; And.intro (keepc o c4) (And.intro (keepc o d4) (And.intro (keepc ow e0) (And.intro (keepc ow e1) (And.intro (keepc ow e2) (And.intro (keepc ow e3) (And.intro (keepc ow e4) (And.intro (keepc ow f0) (And.intro (keepc ow f1) (And.intro (keepc ow f2) (And.intro (keepc ow f3) (keepc ow f4))))))))))))
          have HREC := Lib.hid (fun (wx : World) (ox : Only (fun _ => False) wr.drew wx) => hrec wx (oww.trans ((Only.refl _ wr).drew.trans ox)))
          clear hrec hr hr2 hc hc2 e0 e1 e2 e3 e4 f0 f1 f2 f3 f4 oww
          go_upto_region 11 with (fail)
          clear c4 d4
          refine wp_region_steps 11 (by kernel_rfl) rfl (by kernel_rfl) [some 69, some 70, some 71, some 72, some 73, some 74, some 75, some 76, some 77, some 78, some 79] rfl rfl (fun _ => False) [(fun v _ => v = (.pointer (some ⟨bA, 4, none⟩))), (fun v _ => v = (.slice (some ⟨gv, ov, none⟩) lv cv)), (fun v _ => v = (.int .i64 (j : Int))), (fun v _ => v = (.pointer (some ⟨gv, ov + j * 5, none⟩))), (fun v _ => v = (.agg #[.int .u8 (k' : Int), .int .i64 n', .string ⟨s'.toArray⟩, .slice ak' lk' ck', .slice av' lv' cv'])), (fun v _ => v = (.pointer (some ⟨bB, 4, none⟩))), (fun v _ => v = (.slice (some ⟨gv2, ov2, none⟩) lv cv2)), (fun v _ => v = (.int .i64 (j : Int))), (fun v _ => v = (.pointer (some ⟨gv2, ov2 + j * 5, none⟩))), (fun v _ => v = (.agg #[.int .u8 (k'' : Int), .int .i64 n'', .string ⟨s''.toArray⟩, .slice ak'' lk'' ck'', .slice av'' lv'' cv''])), (fun v _ => v = (.bool true))] rfl ⟨?_, ?_, ?_, ?_, ?_, ?_, ?_, ?_, ?_, ?_, ?_, trivial⟩ _ rfl ⟨?_, ?_, ?_, ?_, ?_, ?_, ?_, ?_, ?_, ?_, ?_, trivial⟩ ?_
          · exact Stable.is _ _
          · exact Stable.is _ _
          · exact Stable.is _ _
          · exact Stable.is _ _
          · exact Stable.is _ _
          · exact Stable.is _ _
          · exact Stable.is _ _
          · exact Stable.is _ _
          · exact Stable.is _ _
          · exact Stable.is _ _
          · exact Stable.is _ _
          · intro x wx ox hN TT HTT
            clear hN
            unfold StepTo
            simp only [putAll, Act.put, List.setIfInBounds_toArray, List.set_cons_succ, List.set_cons_zero]
            go_wp2_with fail
            exact ⟨rfl, _, rfl, HTT.out _ _ (rfl) (Only.refl _ _)⟩
          · intro x wx ox hN TT HTT
            have r69 : x 0 = (.pointer (some ⟨bA, 4, none⟩)) := hN.1 rfl
            clear hN
            unfold StepTo
            simp only [putAll, Act.put, List.setIfInBounds_toArray, List.set_cons_succ, List.set_cons_zero, r69]
            clear r69
            obtain ⟨m1, m2, m3, m4, m5, m6, m7, m8, m9, m10, m11, m12⟩ := HX.out wx ox
            go_wp2_with fail
            exact ⟨rfl, _, rfl, HTT.out _ _ (rfl) (Only.refl _ _)⟩
          · intro x wx ox hN TT HTT
            clear hN
            unfold StepTo
            simp only [putAll, Act.put, List.setIfInBounds_toArray, List.set_cons_succ, List.set_cons_zero]
            go_wp2_with fail
            exact ⟨rfl, _, rfl, HTT.out _ _ (rfl) (Only.refl _ _)⟩
          · intro x wx ox hN TT HTT
            have r70 : x 1 = (.slice (some ⟨gv, ov, none⟩) lv cv) := hN.1 rfl
            have r71 : x 2 = (.int .i64 (j : Int)) := hN.2.1 rfl
            clear hN
            unfold StepTo
            simp only [putAll, Act.put, List.setIfInBounds_toArray, List.set_cons_succ, List.set_cons_zero, r70, r71]
            clear r70 r71
            go_wp2_with fail
            exact ⟨rfl, _, rfl, HTT.out _ _ (rfl) (Only.refl _ _)⟩
          · intro x wx ox hN TT HTT
            have r72 : x 3 = (.pointer (some ⟨gv, ov + j * 5, none⟩)) := hN.1 rfl
            clear hN
            unfold StepTo
            simp only [putAll, Act.put, List.setIfInBounds_toArray, List.set_cons_succ, List.set_cons_zero, r72]
            clear r72
            obtain ⟨m1, m2, m3, m4, m5, m6, m7, m8, m9, m10, m11, m12⟩ := HX.out wx ox
            go_wp2_with fail
            exact ⟨rfl, _, rfl, HTT.out _ _ (rfl) (Only.refl _ _)⟩
          · intro x wx ox hN TT HTT
            clear hN
            unfold StepTo
            simp only [putAll, Act.put, List.setIfInBounds_toArray, List.set_cons_succ, List.set_cons_zero]
            go_wp2_with fail
            exact ⟨rfl, _, rfl, HTT.out _ _ (rfl) (Only.refl _ _)⟩
          · intro x wx ox hN TT HTT
            have r74 : x 5 = (.pointer (some ⟨bB, 4, none⟩)) := hN.1 rfl
            clear hN
            unfold StepTo
            simp only [putAll, Act.put, List.setIfInBounds_toArray, List.set_cons_succ, List.set_cons_zero, r74]
            clear r74
            obtain ⟨m1, m2, m3, m4, m5, m6, m7, m8, m9, m10, m11, m12⟩ := HX.out wx ox
            go_wp2_with fail
            exact ⟨rfl, _, rfl, HTT.out _ _ (rfl) (Only.refl _ _)⟩
          · intro x wx ox hN TT HTT
            clear hN
            unfold StepTo
            simp only [putAll, Act.put, List.setIfInBounds_toArray, List.set_cons_succ, List.set_cons_zero]
            go_wp2_with fail
            exact ⟨rfl, _, rfl, HTT.out _ _ (rfl) (Only.refl _ _)⟩
          · intro x wx ox hN TT HTT
            have r75 : x 6 = (.slice (some ⟨gv2, ov2, none⟩) lv cv2) := hN.1 rfl
            have r76 : x 7 = (.int .i64 (j : Int)) := hN.2.1 rfl
            clear hN
            unfold StepTo
            simp only [putAll, Act.put, List.setIfInBounds_toArray, List.set_cons_succ, List.set_cons_zero, r75, r76]
            clear r75 r76
            go_wp2_with fail
            exact ⟨rfl, _, rfl, HTT.out _ _ (rfl) (Only.refl _ _)⟩
          · intro x wx ox hN TT HTT
            have r77 : x 8 = (.pointer (some ⟨gv2, ov2 + j * 5, none⟩)) := hN.1 rfl
            clear hN
            unfold StepTo
            simp only [putAll, Act.put, List.setIfInBounds_toArray, List.set_cons_succ, List.set_cons_zero, r77]
            clear r77
            obtain ⟨m1, m2, m3, m4, m5, m6, m7, m8, m9, m10, m11, m12⟩ := HX.out wx ox
            go_wp2_with fail
            exact ⟨rfl, _, rfl, HTT.out _ _ (rfl) (Only.refl _ _)⟩
          · intro x wx ox hN TT HTT
            have r73 : x 4 = (.agg #[.int .u8 (k' : Int), .int .i64 n', .string ⟨s'.toArray⟩, .slice ak' lk' ck', .slice av' lv' cv']) := hN.1 rfl
            have r78 : x 9 = (.agg #[.int .u8 (k'' : Int), .int .i64 n'', .string ⟨s''.toArray⟩, .slice ak'' lk'' ck'', .slice av'' lv'' cv'']) := hN.2.1 rfl
            clear hN
            unfold StepTo
            simp only [putAll, Act.put, List.setIfInBounds_toArray, List.set_cons_succ, List.set_cons_zero, r73, r78]
            clear r73 r78
            have ht := HREC.out wx ox
            have HT := Lib.hid ht; clear ht
            go_wp2_with fail
            refine HT.out.mono ?_
            rintro e w6 ⟨rfl, o6⟩
            have O6 := Lib.hid o6; clear o6
            go_wp2_with fail
            exact ⟨rfl, _, rfl, HTT.out _ _ (rfl) (O6.out)⟩
          intro xz wxz oxz hN
          have r69 : xz 0 = (.pointer (some ⟨bA, 4, none⟩)) := hN.1
          have r70 : xz 1 = (.slice (some ⟨gv, ov, none⟩) lv cv) := hN.2.1
          have r71 : xz 2 = (.int .i64 (j : Int)) := hN.2.2.1
          have r72 : xz 3 = (.pointer (some ⟨gv, ov + j * 5, none⟩)) := hN.2.2.2.1
          have r73 : xz 4 = (.agg #[.int .u8 (k' : Int), .int .i64 n', .string ⟨s'.toArray⟩, .slice ak' lk' ck', .slice av' lv' cv']) := hN.2.2.2.2.1
          have r74 : xz 5 = (.pointer (some ⟨bB, 4, none⟩)) := hN.2.2.2.2.2.1
          have r75 : xz 6 = (.slice (some ⟨gv2, ov2, none⟩) lv cv2) := hN.2.2.2.2.2.2.1
          have r76 : xz 7 = (.int .i64 (j : Int)) := hN.2.2.2.2.2.2.2.1
          have r77 : xz 8 = (.pointer (some ⟨gv2, ov2 + j * 5, none⟩)) := hN.2.2.2.2.2.2.2.2.1
          have r78 : xz 9 = (.agg #[.int .u8 (k'' : Int), .int .i64 n'', .string ⟨s''.toArray⟩, .slice ak'' lk'' ck'', .slice av'' lv'' cv'']) := hN.2.2.2.2.2.2.2.2.2.1
          have r79 : xz 10 = (.bool true) := hN.2.2.2.2.2.2.2.2.2.2.1
          clear hN
          simp only [putAll, Act.put, List.setIfInBounds_toArray, List.set_cons_succ, List.set_cons_zero, r69, r70, r71, r72, r73, r74, r75, r76, r77, r78, r79]
          clear r69 r70 r71 r72 r73 r74 r75 r76 r77 r78 r79
          have OZ := Lib.hid (HO.out.trans ((Only.refl _ wr).drew.trans oxz)); clear oxz
          go_wp2_with fail
          go_roundw
          case rel => exact ⟨j + 1, by simp [go_sem], by omega, OZ⟩
          case measure => simp [intOf]; omega
        · have hke : j = lv := by omega
          subst hke
          have t4 : decide ((j : Int) < (j : Int)) = false := by simp
          go_wp2_with fail
          clear c4 d4
          go_ret
          exact ⟨rfl, HOB.out.trans HO.out⟩
theorem sameV_all : ∀ z, SameV z
  | 0 => fun t ht => by exfalso; obtain ⟨k, n, s, ks, vs⟩ := t; simp only [VT.mk.sizeOf_spec] at ht; omega
  | z + 1 => sameV_step z (sameV_all z)
theorem sameV_true (t : VT) {G G' : Nat → Prop} {w : World} {cs ds : List Value} (h : CellsAt w G (valC t) cs) (h' : CellsAt w G' (valC t) ds) : Calls Tryz.prog 57 #[.agg cs.toArray, .agg ds.toArray] w (fun e w' => e = .returned (.bool true) ∧ Only (fun _ => False) w w') :=
  sameV_all _ t (Nat.le_refl _) G G' w cs ds h h'
end Go.Proofs.YtgephneppgcnlaaGreatDoor
