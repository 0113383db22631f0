/- The reference's disk (columbaryref01): done. -/
import Derived.Test.YtlkglhgndfhjeaaRkB
namespace Go.Proofs.Ytlkglhgndfhjeaa
open Go Go.RowKit
set_option linter.unusedVariables false
set_option linter.unusedSimpArgs false
set_option maxRecDepth 100000

theorem own_frozen {w : World} {B : Nat} {e : TypeId} {size : Nat} {g n c m : Nat} {xs : List Value} (h : w.ownsRow B e size (.slice (some ⟨g, 0, none⟩) n c) m xs) (o : Nat) : w.frozen? ⟨g, o, none⟩ = false := by
  obtain ⟨h1, h2⟩ := h
  rcases h2 with ⟨h2, _⟩ | ⟨g', cap, cur, e1, hB, hh, _⟩
  · cases h2
  · injection e1 with e1 _ _
    injection e1 with e1
    injection e1 with e1 _ _
    subst e1
    simp [World.frozen?, hh]
set_option maxHeartbeats 4000000 in
theorem rkDone (F : Nat → Prop) (b : Nat) (st : Dk) (n : Nat) (w : World) (h : RkAt w F b st) (hn : n ≤ st.wait.length) (hw : st.wait.length ≤ 1000000000) (hix : ∀ p ∈ st.wait, 0 ≤ p.1 ∧ p.1 < st.sure.length) :
    Calls Try.prog 51 #[.pointer (some ⟨b, 0, none⟩), .int .i64 n] w fun e w' => e = .returned (.tuple #[]) ∧ RkAt w' F b (settleD st n) ∧ Only (fun q => q = b ∨ ∃ m c, w.cell? ⟨b, 0, none⟩ = some (.slice (some ⟨q, 0, none⟩) m c)) w w' := by
  obtain ⟨aS, aL, cS, cL, c0, c1, c2, c3, c4, fz, hS, hL⟩ := h.cells
  have hsl := h.2.1
  have hfin : ∀ wr, RkAt wr F b { st with sure := settled st.sure (st.wait.take n) } → Only (fun q => aS = some ⟨q, 0, none⟩) w wr → RkAt (wr.setCell ⟨b, 1, none⟩ (.slice none 0 0)) F b (settleD st n) ∧ Only (fun q => q = b ∨ aS = some ⟨q, 0, none⟩) w (wr.setCell ⟨b, 1, none⟩ (.slice none 0 0)) := fun wr h1 h2 =>
    ⟨h1.setNil, (h2.mono (T := fun q => q = b ∨ aS = some ⟨q, 0, none⟩) (fun q _ e => .inr e)).setCell (p := ⟨b, 1, none⟩) (.inl (.inl rfl)) _⟩
  have H := Lib.hid h; have HX := Lib.hid hix; have HFIN := Lib.hid hfin; clear h hix hfin hS hL
  go_enter Try.func51, Try.ntmps51
  go_wp2_with fail
  go_loopw [4] (fun v wr => ∃ k : Nat, v = .int .i64 (k : Int) ∧ k ≤ n ∧ Hid (RkAt wr F b { st with sure := settled st.sure (st.wait.take k) }) ∧ Hid (Only (fun q => aS = some ⟨q, 0, none⟩) w wr) ∧ wr.cell? ⟨b, 0, none⟩ = some (.slice aS st.sure.length cS) ∧ wr.cell? ⟨b, 1, none⟩ = some (.slice aL st.wait.length cL)) (fun v _ => n - (intOf v).toNat)
  case atStart => exact ⟨0, by simp, Nat.zero_le _, Lib.hid (by simpa [settled] using H.out), Lib.hid (Only.refl _ _), by assumption, by assumption⟩
  case round =>
    obtain ⟨k, rfl, hk, HD, HO, d0, d1⟩ := hrel
    by_cases hkn : k < n
    · have hkl : k < st.wait.length := by omega
      have e1 : decide ((k : Int) < (n : Int)) = true := by simpa using hkn
      obtain ⟨aS', aL', cS', cL', d0', d1', _, _, _, dz, hS, hL⟩ := HD.out.cells
      rw [d0] at d0'
      rw [d1] at d1'
      injection d0' with d0'; injection d0' with q1 q2 q3
      injection d1' with d1'; injection d1' with q4 q5 q6
      subst q1; subst q3; subst q4; subst q6
      obtain ⟨hx0, hx1⟩ := HX.out _ (List.getElem_mem hkl)
      obtain ⟨gw, rfl, hgw, f0, f1⟩ := wait_cell hL rfl hkl
      have hil : st.wait[k].1.toNat < (settled st.sure (st.wait.take k)).length := by rw [settled_len]; omega
      obtain ⟨gs, rfl, hgs, f2⟩ := sure_cell hS rfl hil
      have hfz := own_frozen hS st.wait[k].1.toNat
      have hp64 : st.wait[k].2.length = 64 := HD.out.2.2.2.1 _ (List.getElem_mem hkl)
      have hstep := settled_step st.sure st.wait k hkl
      obtain ⟨i, hi⟩ : ∃ i : Nat, st.wait[k].1 = (i : Int) := ⟨_, (Int.toNat_of_nonneg hx0).symm⟩
      obtain ⟨p, hp⟩ : ∃ p, p = st.wait[k].2 := ⟨_, rfl⟩
      rw [hi] at f0 hx0 hx1 hil hstep
      rw [← hp] at f1 hp64 hstep
      simp only [hi, Int.toNat_natCast] at f2 hfz hil hstep
      rw [settled_len] at q2
      have hSET := fun w' (o : Only (fun _ => False) wr w') => ((HD.out.only o (fun _ _ _ h => h)).setSure (g := gs) (n := st.sure.length) (c := cS) (by rw [cell_only o (a := ⟨b, 0, none⟩) HD.out.lt (fun h => h)]; exact d0) hil p hp64).1
      have hLT := HD.out.lt
      have hfacts : ∀ w', Only (fun _ => False) wr w' → w'.cell? ⟨b, 0, none⟩ = some (.slice (some ⟨gs, 0, none⟩) st.sure.length cS) ∧ w'.cell? ⟨b, 1, none⟩ = some (.slice (some ⟨gw, 0, none⟩) st.wait.length cL) ∧ w'.cell? ⟨gw, k * 2, none⟩ = some (.int .i64 i) ∧ w'.cell? ⟨gw, k * 2 + 1, none⟩ = some (.string ⟨p.toArray⟩) ∧ w'.frozen? ⟨gs, i, none⟩ = false ∧ ∃ u, w'.cell? ⟨gs, i, none⟩ = some u := fun w' o =>
        ⟨by rw [cell_only o (a := ⟨b, 0, none⟩) hLT (fun h => h)]; exact d0, by rw [cell_only o (a := ⟨b, 1, none⟩) hLT (fun h => h)]; exact d1, by rw [cell_only o (a := ⟨gw, _, none⟩) hgw (fun h => h)]; exact f0, by rw [cell_only o (a := ⟨gw, _, none⟩) hgw (fun h => h)]; exact f1, by rw [frozen_only o (a := ⟨gs, i, none⟩) hgs (fun h => h)]; exact hfz, _, by rw [cell_only o (a := ⟨gs, i, none⟩) hgs (fun h => h)]; exact f2⟩
      have hkk0 : (0 : Int) ≤ (k : Int) := by omega
      have hkk1 : (k : Int) < (st.wait.length : Int) := by omega
      have hii0 : (0 : Int) ≤ (i : Int) := by omega
      have hii1 : (i : Int) < (st.sure.length : Int) := by omega
      have HSET := Lib.hid hSET; have HFA := Lib.hid hfacts; have HSTEP := Lib.hid hstep; have HLT := Lib.hid hLT
      clear hSET hfacts hstep f0 f1 f2 hfz hS hL dz hi hp hx0 hx1 hil hp64 hgw hgs hLT q2 q5
      go_upto_region 3 with (fail)
      refine wp_region_steps 21 (by kernel_rfl) rfl (by kernel_rfl) [some 10, some 11, some 12, some 13, some 14, some 15, some 16, some 17, some 18, some 19, some 20, some 21, some 22, some 23, some 24, some 25, some 26, some 27, some 28, some 29, some 30] rfl rfl (fun _ => False) [(fun v _ => v = (.pointer (some ⟨b, 0, none⟩))), (fun v _ => v = (.pointer (some ⟨b, 0, none⟩))), (fun v _ => v = (.pointer (some ⟨b, 0, none⟩))), (fun v _ => v = (.slice (some ⟨gs, 0, none⟩) st.sure.length cS)), (fun v _ => v = (.pointer (some ⟨b, 0, none⟩))), (fun v _ => v = (.pointer (some ⟨b, 0, none⟩))), (fun v _ => v = (.pointer (some ⟨b, 1, none⟩))), (fun v _ => v = (.slice (some ⟨gw, 0, none⟩) st.wait.length cL)), (fun v _ => v = (.int .i64 (k : Int))), (fun v _ => v = (.pointer (some ⟨gw, k * 2, none⟩))), (fun v _ => v = (.pointer (some ⟨gw, k * 2, none⟩))), (fun v _ => v = (.int .i64 (i : Int))), (fun v _ => v = (.pointer (some ⟨b, 0, none⟩))), (fun v _ => v = (.pointer (some ⟨b, 0, none⟩))), (fun v _ => v = (.pointer (some ⟨b, 1, none⟩))), (fun v _ => v = (.slice (some ⟨gw, 0, none⟩) st.wait.length cL)), (fun v _ => v = (.int .i64 (k : Int))), (fun v _ => v = (.pointer (some ⟨gw, k * 2, none⟩))), (fun v _ => v = (.pointer (some ⟨gw, k * 2 + 1, none⟩))), (fun v _ => v = (.string ⟨p.toArray⟩)), (fun v _ => v = (.pointer (some ⟨gs, i, none⟩)))] rfl ⟨?_, ?_, ?_, ?_, ?_, ?_, ?_, ?_, ?_, ?_, ?_, ?_, ?_, ?_, ?_, ?_, ?_, ?_, ?_, ?_, ?_, trivial⟩ _ rfl ⟨?_, ?_, ?_, ?_, ?_, ?_, ?_, ?_, ?_, ?_, ?_, ?_, ?_, ?_, ?_, ?_, ?_, ?_, ?_, ?_, ?_, trivial⟩ ?_
      · exact Stable.is _ _
      · exact Stable.is _ _
      · exact Stable.is _ _
      · exact Stable.is _ _
      · exact Stable.is _ _
      · exact Stable.is _ _
      · exact Stable.is _ _
      · exact Stable.is _ _
      · exact Stable.is _ _
      · exact Stable.is _ _
      · exact Stable.is _ _
      · exact Stable.is _ _
      · exact Stable.is _ _
      · exact Stable.is _ _
      · exact Stable.is _ _
      · exact Stable.is _ _
      · exact Stable.is _ _
      · exact Stable.is _ _
      · exact Stable.is _ _
      · exact Stable.is _ _
      · exact Stable.is _ _
      · intro x wx ox hN TT HTT
        clear hN
        unfold StepTo
        simp only [putAll, Act.put, List.setIfInBounds_toArray, List.set_cons_succ, List.set_cons_zero]
        go_wp2_with fail
        exact ⟨rfl, _, rfl, HTT.out _ _ (rfl) (Only.refl _ _)⟩
      · intro x wx ox hN TT HTT
        have r10 : x 0 = (.pointer (some ⟨b, 0, none⟩)) := hN.1 rfl
        clear hN
        unfold StepTo
        simp only [putAll, Act.put, List.setIfInBounds_toArray, List.set_cons_succ, List.set_cons_zero, r10]
        clear r10
        go_wp2_with fail
        exact ⟨rfl, _, rfl, HTT.out _ _ (rfl) (Only.refl _ _)⟩
      · intro x wx ox hN TT HTT
        have r11 : x 1 = (.pointer (some ⟨b, 0, none⟩)) := hN.1 rfl
        clear hN
        unfold StepTo
        simp only [putAll, Act.put, List.setIfInBounds_toArray, List.set_cons_succ, List.set_cons_zero, r11]
        clear r11
        go_wp2_with fail
        exact ⟨rfl, _, rfl, HTT.out _ _ (rfl) (Only.refl _ _)⟩
      · intro x wx ox hN TT HTT
        have r12 : x 2 = (.pointer (some ⟨b, 0, none⟩)) := hN.1 rfl
        clear hN
        unfold StepTo
        simp only [putAll, Act.put, List.setIfInBounds_toArray, List.set_cons_succ, List.set_cons_zero, r12]
        clear r12
        obtain ⟨g0, g1, g2, g3, g4, _, g5⟩ := HFA.out wx (((Only.refl _ wr).drew).trans ox)
        go_wp2_with fail
        exact ⟨rfl, _, rfl, HTT.out _ _ (rfl) (Only.refl _ _)⟩
      · intro x wx ox hN TT HTT
        clear hN
        unfold StepTo
        simp only [putAll, Act.put, List.setIfInBounds_toArray, List.set_cons_succ, List.set_cons_zero]
        go_wp2_with fail
        exact ⟨rfl, _, rfl, HTT.out _ _ (rfl) (Only.refl _ _)⟩
      · intro x wx ox hN TT HTT
        have r14 : x 4 = (.pointer (some ⟨b, 0, none⟩)) := hN.1 rfl
        clear hN
        unfold StepTo
        simp only [putAll, Act.put, List.setIfInBounds_toArray, List.set_cons_succ, List.set_cons_zero, r14]
        clear r14
        go_wp2_with fail
        exact ⟨rfl, _, rfl, HTT.out _ _ (rfl) (Only.refl _ _)⟩
      · intro x wx ox hN TT HTT
        have r15 : x 5 = (.pointer (some ⟨b, 0, none⟩)) := hN.1 rfl
        clear hN
        unfold StepTo
        simp only [putAll, Act.put, List.setIfInBounds_toArray, List.set_cons_succ, List.set_cons_zero, r15]
        clear r15
        go_wp2_with fail
        exact ⟨rfl, _, rfl, HTT.out _ _ (rfl) (Only.refl _ _)⟩
      · intro x wx ox hN TT HTT
        have r16 : x 6 = (.pointer (some ⟨b, 1, none⟩)) := hN.1 rfl
        clear hN
        unfold StepTo
        simp only [putAll, Act.put, List.setIfInBounds_toArray, List.set_cons_succ, List.set_cons_zero, r16]
        clear r16
        obtain ⟨g0, g1, g2, g3, g4, _, g5⟩ := HFA.out wx (((Only.refl _ wr).drew).trans ox)
        go_wp2_with fail
        exact ⟨rfl, _, rfl, HTT.out _ _ (rfl) (Only.refl _ _)⟩
      · intro x wx ox hN TT HTT
        clear hN
        unfold StepTo
        simp only [putAll, Act.put, List.setIfInBounds_toArray, List.set_cons_succ, List.set_cons_zero]
        go_wp2_with fail
        exact ⟨rfl, _, rfl, HTT.out _ _ (rfl) (Only.refl _ _)⟩
      · intro x wx ox hN TT HTT
        have r17 : x 7 = (.slice (some ⟨gw, 0, none⟩) st.wait.length cL) := hN.1 rfl
        have r18 : x 8 = (.int .i64 (k : Int)) := hN.2.1 rfl
        clear hN
        unfold StepTo
        simp only [putAll, Act.put, List.setIfInBounds_toArray, List.set_cons_succ, List.set_cons_zero, r17, r18]
        clear r17 r18
        obtain ⟨g0, g1, g2, g3, g4, _, g5⟩ := HFA.out wx (((Only.refl _ wr).drew).trans ox)
        go_wp2_with fail
        exact ⟨rfl, _, rfl, HTT.out _ _ (rfl) (Only.refl _ _)⟩
      · intro x wx ox hN TT HTT
        have r19 : x 9 = (.pointer (some ⟨gw, k * 2, none⟩)) := hN.1 rfl
        clear hN
        unfold StepTo
        simp only [putAll, Act.put, List.setIfInBounds_toArray, List.set_cons_succ, List.set_cons_zero, r19]
        clear r19
        go_wp2_with fail
        exact ⟨rfl, _, rfl, HTT.out _ _ (rfl) (Only.refl _ _)⟩
      · intro x wx ox hN TT HTT
        have r20 : x 10 = (.pointer (some ⟨gw, k * 2, none⟩)) := hN.1 rfl
        clear hN
        unfold StepTo
        simp only [putAll, Act.put, List.setIfInBounds_toArray, List.set_cons_succ, List.set_cons_zero, r20]
        clear r20
        obtain ⟨g0, g1, g2, g3, g4, _, g5⟩ := HFA.out wx (((Only.refl _ wr).drew).trans ox)
        go_wp2_with fail
        exact ⟨rfl, _, rfl, HTT.out _ _ (rfl) (Only.refl _ _)⟩
      · intro x wx ox hN TT HTT
        clear hN
        unfold StepTo
        simp only [putAll, Act.put, List.setIfInBounds_toArray, List.set_cons_succ, List.set_cons_zero]
        go_wp2_with fail
        exact ⟨rfl, _, rfl, HTT.out _ _ (rfl) (Only.refl _ _)⟩
      · intro x wx ox hN TT HTT
        have r22 : x 12 = (.pointer (some ⟨b, 0, none⟩)) := hN.1 rfl
        clear hN
        unfold StepTo
        simp only [putAll, Act.put, List.setIfInBounds_toArray, List.set_cons_succ, List.set_cons_zero, r22]
        clear r22
        go_wp2_with fail
        exact ⟨rfl, _, rfl, HTT.out _ _ (rfl) (Only.refl _ _)⟩
      · intro x wx ox hN TT HTT
        have r23 : x 13 = (.pointer (some ⟨b, 0, none⟩)) := hN.1 rfl
        clear hN
        unfold StepTo
        simp only [putAll, Act.put, List.setIfInBounds_toArray, List.set_cons_succ, List.set_cons_zero, r23]
        clear r23
        go_wp2_with fail
        exact ⟨rfl, _, rfl, HTT.out _ _ (rfl) (Only.refl _ _)⟩
      · intro x wx ox hN TT HTT
        have r24 : x 14 = (.pointer (some ⟨b, 1, none⟩)) := hN.1 rfl
        clear hN
        unfold StepTo
        simp only [putAll, Act.put, List.setIfInBounds_toArray, List.set_cons_succ, List.set_cons_zero, r24]
        clear r24
        obtain ⟨g0, g1, g2, g3, g4, _, g5⟩ := HFA.out wx (((Only.refl _ wr).drew).trans ox)
        go_wp2_with fail
        exact ⟨rfl, _, rfl, HTT.out _ _ (rfl) (Only.refl _ _)⟩
      · intro x wx ox hN TT HTT
        clear hN
        unfold StepTo
        simp only [putAll, Act.put, List.setIfInBounds_toArray, List.set_cons_succ, List.set_cons_zero]
        go_wp2_with fail
        exact ⟨rfl, _, rfl, HTT.out _ _ (rfl) (Only.refl _ _)⟩
      · intro x wx ox hN TT HTT
        have r25 : x 15 = (.slice (some ⟨gw, 0, none⟩) st.wait.length cL) := hN.1 rfl
        have r26 : x 16 = (.int .i64 (k : Int)) := hN.2.1 rfl
        clear hN
        unfold StepTo
        simp only [putAll, Act.put, List.setIfInBounds_toArray, List.set_cons_succ, List.set_cons_zero, r25, r26]
        clear r25 r26
        obtain ⟨g0, g1, g2, g3, g4, _, g5⟩ := HFA.out wx (((Only.refl _ wr).drew).trans ox)
        go_wp2_with fail
        exact ⟨rfl, _, rfl, HTT.out _ _ (rfl) (Only.refl _ _)⟩
      · intro x wx ox hN TT HTT
        have r27 : x 17 = (.pointer (some ⟨gw, k * 2, none⟩)) := hN.1 rfl
        clear hN
        unfold StepTo
        simp only [putAll, Act.put, List.setIfInBounds_toArray, List.set_cons_succ, List.set_cons_zero, r27]
        clear r27
        go_wp2_with fail
        exact ⟨rfl, _, rfl, HTT.out _ _ (rfl) (Only.refl _ _)⟩
      · intro x wx ox hN TT HTT
        have r28 : x 18 = (.pointer (some ⟨gw, k * 2 + 1, none⟩)) := hN.1 rfl
        clear hN
        unfold StepTo
        simp only [putAll, Act.put, List.setIfInBounds_toArray, List.set_cons_succ, List.set_cons_zero, r28]
        clear r28
        obtain ⟨g0, g1, g2, g3, g4, _, g5⟩ := HFA.out wx (((Only.refl _ wr).drew).trans ox)
        go_wp2_with fail
        exact ⟨rfl, _, rfl, HTT.out _ _ (rfl) (Only.refl _ _)⟩
      · intro x wx ox hN TT HTT
        have r13 : x 3 = (.slice (some ⟨gs, 0, none⟩) st.sure.length cS) := hN.1 rfl
        have r21 : x 11 = (.int .i64 (i : Int)) := hN.2.1 rfl
        have r10 : x 0 = (.pointer (some ⟨b, 0, none⟩)) := hN.2.2.1 rfl
        have r11 : x 1 = (.pointer (some ⟨b, 0, none⟩)) := hN.2.2.2.1 rfl
        have r12 : x 2 = (.pointer (some ⟨b, 0, none⟩)) := hN.2.2.2.2.1 rfl
        have r14 : x 4 = (.pointer (some ⟨b, 0, none⟩)) := hN.2.2.2.2.2.2.1 rfl
        have r15 : x 5 = (.pointer (some ⟨b, 0, none⟩)) := hN.2.2.2.2.2.2.2.1 rfl
        have r16 : x 6 = (.pointer (some ⟨b, 1, none⟩)) := hN.2.2.2.2.2.2.2.2.1 rfl
        have r17 : x 7 = (.slice (some ⟨gw, 0, none⟩) st.wait.length cL) := hN.2.2.2.2.2.2.2.2.2.1 rfl
        have r18 : x 8 = (.int .i64 (k : Int)) := hN.2.2.2.2.2.2.2.2.2.2.1 rfl
        have r19 : x 9 = (.pointer (some ⟨gw, k * 2, none⟩)) := hN.2.2.2.2.2.2.2.2.2.2.2.1 rfl
        have r20 : x 10 = (.pointer (some ⟨gw, k * 2, none⟩)) := hN.2.2.2.2.2.2.2.2.2.2.2.2.1 rfl
        have r22 : x 12 = (.pointer (some ⟨b, 0, none⟩)) := hN.2.2.2.2.2.2.2.2.2.2.2.2.2.2.1 rfl
        have r23 : x 13 = (.pointer (some ⟨b, 0, none⟩)) := hN.2.2.2.2.2.2.2.2.2.2.2.2.2.2.2.1 rfl
        have r24 : x 14 = (.pointer (some ⟨b, 1, none⟩)) := hN.2.2.2.2.2.2.2.2.2.2.2.2.2.2.2.2.1 rfl
        have r25 : x 15 = (.slice (some ⟨gw, 0, none⟩) st.wait.length cL) := hN.2.2.2.2.2.2.2.2.2.2.2.2.2.2.2.2.2.1 rfl
        have r26 : x 16 = (.int .i64 (k : Int)) := hN.2.2.2.2.2.2.2.2.2.2.2.2.2.2.2.2.2.2.1 rfl
        have r27 : x 17 = (.pointer (some ⟨gw, k * 2, none⟩)) := hN.2.2.2.2.2.2.2.2.2.2.2.2.2.2.2.2.2.2.2.1 rfl
        have r28 : x 18 = (.pointer (some ⟨gw, k * 2 + 1, none⟩)) := hN.2.2.2.2.2.2.2.2.2.2.2.2.2.2.2.2.2.2.2.2.1 rfl
        have r29 : x 19 = (.string ⟨p.toArray⟩) := hN.2.2.2.2.2.2.2.2.2.2.2.2.2.2.2.2.2.2.2.2.2.1 rfl
        clear hN
        unfold StepTo
        simp only [putAll, Act.put, List.setIfInBounds_toArray, List.set_cons_succ, List.set_cons_zero, r13, r21, r10, r11, r12, r14, r15, r16, r17, r18, r19, r20, r22, r23, r24, r25, r26, r27, r28, r29]
        clear r13 r21 r10 r11 r12 r14 r15 r16 r17 r18 r19 r20 r22 r23 r24 r25 r26 r27 r28 r29
        obtain ⟨g0, g1, g2, g3, g4, _, g5⟩ := HFA.out wx (((Only.refl _ wr).drew).trans ox)
        go_wp2_with fail
        exact ⟨rfl, _, rfl, HTT.out _ _ (rfl) (Only.refl _ _)⟩
      intro xa wxa oxa hN
      have r10 : xa 0 = (.pointer (some ⟨b, 0, none⟩)) := hN.1
      have r11 : xa 1 = (.pointer (some ⟨b, 0, none⟩)) := hN.2.1
      have r12 : xa 2 = (.pointer (some ⟨b, 0, none⟩)) := hN.2.2.1
      have r13 : xa 3 = (.slice (some ⟨gs, 0, none⟩) st.sure.length cS) := hN.2.2.2.1
      have r14 : xa 4 = (.pointer (some ⟨b, 0, none⟩)) := hN.2.2.2.2.1
      have r15 : xa 5 = (.pointer (some ⟨b, 0, none⟩)) := hN.2.2.2.2.2.1
      have r16 : xa 6 = (.pointer (some ⟨b, 1, none⟩)) := hN.2.2.2.2.2.2.1
      have r17 : xa 7 = (.slice (some ⟨gw, 0, none⟩) st.wait.length cL) := hN.2.2.2.2.2.2.2.1
      have r18 : xa 8 = (.int .i64 (k : Int)) := hN.2.2.2.2.2.2.2.2.1
      have r19 : xa 9 = (.pointer (some ⟨gw, k * 2, none⟩)) := hN.2.2.2.2.2.2.2.2.2.1
      have r20 : xa 10 = (.pointer (some ⟨gw, k * 2, none⟩)) := hN.2.2.2.2.2.2.2.2.2.2.1
      have r21 : xa 11 = (.int .i64 (i : Int)) := hN.2.2.2.2.2.2.2.2.2.2.2.1
      have r22 : xa 12 = (.pointer (some ⟨b, 0, none⟩)) := hN.2.2.2.2.2.2.2.2.2.2.2.2.1
      have r23 : xa 13 = (.pointer (some ⟨b, 0, none⟩)) := hN.2.2.2.2.2.2.2.2.2.2.2.2.2.1
      have r24 : xa 14 = (.pointer (some ⟨b, 1, none⟩)) := hN.2.2.2.2.2.2.2.2.2.2.2.2.2.2.1
      have r25 : xa 15 = (.slice (some ⟨gw, 0, none⟩) st.wait.length cL) := hN.2.2.2.2.2.2.2.2.2.2.2.2.2.2.2.1
      have r26 : xa 16 = (.int .i64 (k : Int)) := hN.2.2.2.2.2.2.2.2.2.2.2.2.2.2.2.2.1
      have r27 : xa 17 = (.pointer (some ⟨gw, k * 2, none⟩)) := hN.2.2.2.2.2.2.2.2.2.2.2.2.2.2.2.2.2.1
      have r28 : xa 18 = (.pointer (some ⟨gw, k * 2 + 1, none⟩)) := hN.2.2.2.2.2.2.2.2.2.2.2.2.2.2.2.2.2.2.1
      have r29 : xa 19 = (.string ⟨p.toArray⟩) := hN.2.2.2.2.2.2.2.2.2.2.2.2.2.2.2.2.2.2.2.1
      have r30 : xa 20 = (.pointer (some ⟨gs, i, none⟩)) := hN.2.2.2.2.2.2.2.2.2.2.2.2.2.2.2.2.2.2.2.2.1
      clear hN
      simp only [putAll, Act.put, List.setIfInBounds_toArray, List.set_cons_succ, List.set_cons_zero, r10, r11, r12, r13, r14, r15, r16, r17, r18, r19, r20, r21, r22, r23, r24, r25, r26, r27, r28, r29, r30]
      clear r10 r11 r12 r13 r14 r15 r16 r17 r18 r19 r20 r21 r22 r23 r24 r25 r26 r27 r28 r29 r30
      have oa := ((Only.refl (fun _ => False) wr).drew).trans oxa
      obtain ⟨g0, g1, _, _, g4, u, g5⟩ := HFA.out wxa oa
      have hst := HSET.out wxa oa
      have hst2 : RkAt (wxa.setCell ⟨gs, i, none⟩ (.string ⟨p.toArray⟩)) F b { st with sure := settled st.sure (st.wait.take (k + 1)) } := by rw [HSTEP.out]; exact hst
      have ho2 := (HO.out.trans' oa (fun _ _ h => h.elim)).setCell (p := ⟨gs, i, none⟩) (.inl rfl) (.string ⟨p.toArray⟩)
      have hne : gs ≠ b := fun e => by
        subst e
        obtain ⟨_, _, _, _, vS, vL, h3, h4, h5, h6, _⟩ := HD.out
        have e : vS = .slice (some ⟨gs, 0, none⟩) st.sure.length cS := by simpa [World.cell?, h3] using d0
        exact (h6 gs (by rw [e]; rfl)).1 rfl
      have x0 : (wxa.setCell ⟨gs, i, none⟩ (.string ⟨p.toArray⟩)).cell? ⟨b, 0, none⟩ = some (.slice (some ⟨gs, 0, none⟩) st.sure.length cS) := by
        rw [cell_only ((Only.refl (fun q => q = gs) wxa).setCell (p := ⟨gs, i, none⟩) (.inl rfl) (.string ⟨p.toArray⟩)) (a := ⟨b, 0, none⟩) (cell_lt g0) (fun e => hne e.symm)]; exact g0
      have x1 : (wxa.setCell ⟨gs, i, none⟩ (.string ⟨p.toArray⟩)).cell? ⟨b, 1, none⟩ = some (.slice (some ⟨gw, 0, none⟩) st.wait.length cL) := by
        rw [cell_only ((Only.refl (fun q => q = gs) wxa).setCell (p := ⟨gs, i, none⟩) (.inl rfl) (.string ⟨p.toArray⟩)) (a := ⟨b, 1, none⟩) (cell_lt g1) (fun e => hne e.symm)]; exact g1
      have HST := Lib.hid hst2; have HO2 := Lib.hid ho2; have X0 := Lib.hid x0; have X1 := Lib.hid x1
      clear hst hst2 ho2 x0 x1 hne
      go_wp2_with fail
      go_roundw
      case rel => exact ⟨k + 1, by simp [go_sem], by omega, HST, HO2, X0.out, X1.out⟩
      case measure => simp [intOf]; omega
    · have e1 : decide ((k : Int) < (n : Int)) = false := by simp; omega
      obtain rfl : k = n := by omega
      have hz := fz
      have hf := HFIN.out wr HD.out HO.out
      obtain ⟨_, _, _, _, _, _, _, _, _, dz, _, _⟩ := HD.out.cells
      have HF := Lib.hid hf; clear hf hz
      go_wp2_with fail
      go_end0
      exact ⟨rfl, HF.out⟩
end Go.Proofs.Ytlkglhgndfhjeaa
