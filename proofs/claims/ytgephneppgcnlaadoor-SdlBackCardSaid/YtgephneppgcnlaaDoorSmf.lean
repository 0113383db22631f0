/- The document's Same, of declarations: of rows of them. -/
import Derived.Test.YtgephneppgcnlaaDoorSme
namespace Go.Proofs.YtgephneppgcnlaaDoor
open Go Go.RowKit
set_option linter.unusedVariables false
set_option linter.unusedSimpArgs false

set_option maxRecDepth 100000 in
set_option maxHeartbeats 16000000 in
theorem sameTDs (ts : List TD) (G G' : Nat → Prop) (w : World) (v u : Value) (h : CellAt w G (.row 4 (ts.map tdC)) v) (h' : CellAt w G' (.row 4 (ts.map tdC)) u) :
    Calls Tryd.prog 22 #[v, u] w (fun e w' => e = .returned (.bool true) ∧ Only (fun _ => False) w w') := by
  obtain ⟨a, c, rfl, k1, k2, k3⟩ := rows_at h
  obtain ⟨a', c', rfl, k1', k2', k3'⟩ := rows_at h'
  obtain ⟨L, hL⟩ : ∃ L, ts.length = L := ⟨_, rfl⟩
  rw [hL] at k1 k1' ⊢
  have HL := Lib.hid hL; have HK := Lib.hid k3; have HK' := Lib.hid k3'
  clear hL k3 k3' h h'
  go_enter Tryd.func22, Tryd.ntmps22
  go_wp2_with fail
  go_loopw [5] (fun v wr => ∃ i : Nat, v = .int .i64 (i : Int) ∧ i ≤ L ∧ Hid (Only (fun _ => False) w wr)) (fun v _ => L - (intOf v).toNat)
  case atStart => exact ⟨0, by simp, by omega, Lib.hid (Only.refl _ _)⟩
  case round =>
    obtain ⟨i, rfl, hi, HO⟩ := hrel
    by_cases hlt : i < L
    · have t3 : decide ((i : Int) < (L : Int)) = true := by simpa using hlt
      have hi0 : (0 : Int) ≤ (i : Int) := by omega
      have hi1 : (i : Int) < (L : Int) := by omega
      have hil : i < ts.length := by rw [HL.out]; exact hlt
      obtain ⟨g, o, xs, rfl, -, q1, q2⟩ := HK.out i hil
      obtain ⟨g', o', xs', rfl, -, q1', q2'⟩ := HK'.out i hil
      obtain ⟨fv, nv, rfl, hf, hn⟩ := td_cells q2
      obtain ⟨fv', nv', rfl, hf', hn'⟩ := td_cells q2'
      have hrec := fun (wx : World) (ox : Only (fun _ => False) w wx) => sameFDs_all _ G G' wx _ _ (CellAt.only ox (fun _ _ h => h) _ _ hf) (CellAt.only ox (fun _ _ h => h) _ _ hf')
      obtain ⟨af, cf, rfl, -, -, -⟩ := rows_at hf
      obtain ⟨af', cf', rfl, -, -, -⟩ := rows_at hf'
      obtain ⟨an, cn, rfl, n1, n2, n3⟩ := rows_at hn
      obtain ⟨an', cn', rfl, n1', n2', n3'⟩ := rows_at hn'
      obtain ⟨e0, e1, e2, e3⟩ := cells4_in q1
      obtain ⟨f0, f1, f2, f3⟩ := cells4_in q1'
      generalize ts[i].kind = kk at *
      generalize ts[i].name = nm at *
      generalize ts[i].fields.length = LF at *
      generalize ts[i].names = ns at *
      obtain ⟨LN, hLN⟩ : ∃ L, ns.length = L := ⟨_, rfl⟩
      rw [hLN] at n1 n1' e3 f3
      have oww : Only (fun _ => False) w wr := HO.out
      have HX := Lib.hid (fun (wx : World) (ox : Only (fun _ => False) wr.drew wx) => have ow := oww.trans ((Only.refl _ wr).drew.trans ox); And.intro (keepc ow e0) (And.intro (keepc ow e1) (And.intro (keepc ow e2) (And.intro (keepc ow e3) (And.intro (keepc ow f0) (And.intro (keepc ow f1) (And.intro (keepc ow f2) (keepc ow f3))))))))
      have HREC := Lib.hid (fun (wx : World) (ox : Only (fun _ => False) wr.drew wx) => hrec wx (oww.trans ((Only.refl _ wr).drew.trans ox)))
      have HN := Lib.hid n3; have HN' := Lib.hid n3'; have HLN := Lib.hid hLN
      have HE := Lib.hid (And.intro e3 f3)
      clear hrec q1 q1' q2 q2' hf hf' hn hn' e0 e1 e2 e3 f0 f1 f2 f3 oww n3 n3' hLN
      go_upto_region 6 with (fail)
      refine wp_region_steps 52 (by kernel_rfl) rfl (by kernel_rfl) [some 18, some 19, some 20, some 21, some 22, some 23, some 24, some 25, some 26, some 27, some 28, some 29, some 30, some 31, some 32, some 33, some 34, some 35, some 36, some 37, some 38, some 39, some 40, some 41, some 42, some 43, some 44, some 45, some 46, some 47, some 48, some 49, some 50, some 51, some 52, some 53, some 54, some 55, some 56, some 57, some 58, some 59, some 60, some 61, some 62, some 63, some 64, some 65, some 66, some 67, some 68, some 69] rfl rfl (fun _ => False) [(fun v _ => v = (.slice (some ⟨g, o, none⟩) L c)), (fun v _ => v = (.int .i64 (i : Int))), (fun v _ => v = (.pointer (some ⟨g, o + i * 4, none⟩))), (fun v _ => v = (.pointer (some ⟨g, o + i * 4, none⟩))), (fun v _ => v = (.int .u8 (kk : Int))), (fun v _ => v = (.slice (some ⟨g', o', none⟩) L c')), (fun v _ => v = (.int .i64 (i : Int))), (fun v _ => v = (.pointer (some ⟨g', o' + i * 4, none⟩))), (fun v _ => v = (.pointer (some ⟨g', o' + i * 4, none⟩))), (fun v _ => v = (.int .u8 (kk : Int))), (fun v _ => v = (.bool false)), (fun v _ => v = (.bool false)), (fun v _ => v = (.slice (some ⟨g, o, none⟩) L c)), (fun v _ => v = (.int .i64 (i : Int))), (fun v _ => v = (.pointer (some ⟨g, o + i * 4, none⟩))), (fun v _ => v = (.pointer (some ⟨g, o + i * 4 + 1, none⟩))), (fun v _ => v = (.string ⟨nm.toArray⟩)), (fun v _ => v = (.slice (some ⟨g', o', none⟩) L c')), (fun v _ => v = (.int .i64 (i : Int))), (fun v _ => v = (.pointer (some ⟨g', o' + i * 4, none⟩))), (fun v _ => v = (.pointer (some ⟨g', o' + i * 4 + 1, none⟩))), (fun v _ => v = (.string ⟨nm.toArray⟩)), (fun v _ => v = (.bool false)), (fun v _ => v = (.bool false)), (fun v _ => v = (.bool false)), (fun v _ => v = (.slice (some ⟨g, o, none⟩) L c)), (fun v _ => v = (.int .i64 (i : Int))), (fun v _ => v = (.pointer (some ⟨g, o + i * 4, none⟩))), (fun v _ => v = (.pointer (some ⟨g, o + i * 4 + 3, none⟩))), (fun v _ => v = (.slice an LN cn)), (fun v _ => v = (.int .i64 (LN : Int))), (fun v _ => v = (.slice (some ⟨g', o', none⟩) L c')), (fun v _ => v = (.int .i64 (i : Int))), (fun v _ => v = (.pointer (some ⟨g', o' + i * 4, none⟩))), (fun v _ => v = (.pointer (some ⟨g', o' + i * 4 + 3, none⟩))), (fun v _ => v = (.slice an' LN cn')), (fun v _ => v = (.int .i64 (LN : Int))), (fun v _ => v = (.bool false)), (fun v _ => v = (.bool false)), (fun v _ => v = (.bool false)), (fun v _ => v = (.slice (some ⟨g, o, none⟩) L c)), (fun v _ => v = (.int .i64 (i : Int))), (fun v _ => v = (.pointer (some ⟨g, o + i * 4, none⟩))), (fun v _ => v = (.pointer (some ⟨g, o + i * 4 + 2, none⟩))), (fun v _ => v = (.slice af LF cf)), (fun v _ => v = (.slice (some ⟨g', o', none⟩) L c')), (fun v _ => v = (.int .i64 (i : Int))), (fun v _ => v = (.pointer (some ⟨g', o' + i * 4, none⟩))), (fun v _ => v = (.pointer (some ⟨g', o' + i * 4 + 2, none⟩))), (fun v _ => v = (.slice af' LF cf')), (fun v _ => v = (.bool true)), (fun v _ => v = (.bool false))] rfl ⟨?_, ?_, ?_, ?_, ?_, ?_, ?_, ?_, ?_, ?_, ?_, ?_, ?_, ?_, ?_, ?_, ?_, ?_, ?_, ?_, ?_, ?_, ?_, ?_, ?_, ?_, ?_, ?_, ?_, ?_, ?_, ?_, ?_, ?_, ?_, ?_, ?_, ?_, ?_, ?_, ?_, ?_, ?_, ?_, ?_, ?_, ?_, ?_, ?_, ?_, ?_, ?_, trivial⟩ _ rfl ⟨?_, ?_, ?_, ?_, ?_, ?_, ?_, ?_, ?_, ?_, ?_, ?_, ?_, ?_, ?_, ?_, ?_, ?_, ?_, ?_, ?_, ?_, ?_, ?_, ?_, ?_, ?_, ?_, ?_, ?_, ?_, ?_, ?_, ?_, ?_, ?_, ?_, ?_, ?_, ?_, ?_, ?_, ?_, ?_, ?_, ?_, ?_, ?_, ?_, ?_, ?_, ?_, trivial⟩ ?_
      · exact Stable.is _ _
      · exact Stable.is _ _
      · exact Stable.is _ _
      · exact Stable.is _ _
      · exact Stable.is _ _
      · exact Stable.is _ _
      · exact Stable.is _ _
      · exact Stable.is _ _
      · exact Stable.is _ _
      · exact Stable.is _ _
      · exact Stable.is _ _
      · exact Stable.is _ _
      · exact Stable.is _ _
      · exact Stable.is _ _
      · exact Stable.is _ _
      · exact Stable.is _ _
      · exact Stable.is _ _
      · exact Stable.is _ _
      · exact Stable.is _ _
      · exact Stable.is _ _
      · exact Stable.is _ _
      · exact Stable.is _ _
      · exact Stable.is _ _
      · exact Stable.is _ _
      · exact Stable.is _ _
      · exact Stable.is _ _
      · exact Stable.is _ _
      · exact Stable.is _ _
      · exact Stable.is _ _
      · exact Stable.is _ _
      · exact Stable.is _ _
      · exact Stable.is _ _
      · exact Stable.is _ _
      · exact Stable.is _ _
      · exact Stable.is _ _
      · exact Stable.is _ _
      · exact Stable.is _ _
      · exact Stable.is _ _
      · exact Stable.is _ _
      · exact Stable.is _ _
      · exact Stable.is _ _
      · exact Stable.is _ _
      · exact Stable.is _ _
      · exact Stable.is _ _
      · exact Stable.is _ _
      · exact Stable.is _ _
      · exact Stable.is _ _
      · exact Stable.is _ _
      · exact Stable.is _ _
      · exact Stable.is _ _
      · exact Stable.is _ _
      · exact Stable.is _ _
      · intro x wx ox hN TT HTT
        clear hN
        unfold StepTo
        simp only [putAll, Act.put, List.setIfInBounds_toArray, List.set_cons_succ, List.set_cons_zero]
        go_wp2_with fail
        exact ⟨rfl, _, rfl, HTT.out _ _ (rfl) (Only.refl _ _)⟩
      · intro x wx ox hN TT HTT
        clear hN
        unfold StepTo
        simp only [putAll, Act.put, List.setIfInBounds_toArray, List.set_cons_succ, List.set_cons_zero]
        go_wp2_with fail
        exact ⟨rfl, _, rfl, HTT.out _ _ (rfl) (Only.refl _ _)⟩
      · intro x wx ox hN TT HTT
        have r18 : x 0 = (.slice (some ⟨g, o, none⟩) L c) := hN.1 rfl
        have r19 : x 1 = (.int .i64 (i : Int)) := hN.2.1 rfl
        clear hN
        unfold StepTo
        simp only [putAll, Act.put, List.setIfInBounds_toArray, List.set_cons_succ, List.set_cons_zero, r18, r19]
        clear r18 r19
        go_wp2_with fail
        exact ⟨rfl, _, rfl, HTT.out _ _ (rfl) (Only.refl _ _)⟩
      · intro x wx ox hN TT HTT
        have r20 : x 2 = (.pointer (some ⟨g, o + i * 4, none⟩)) := hN.1 rfl
        clear hN
        unfold StepTo
        simp only [putAll, Act.put, List.setIfInBounds_toArray, List.set_cons_succ, List.set_cons_zero, r20]
        clear r20
        go_wp2_with fail
        exact ⟨rfl, _, rfl, HTT.out _ _ (rfl) (Only.refl _ _)⟩
      · intro x wx ox hN TT HTT
        have r21 : x 3 = (.pointer (some ⟨g, o + i * 4, none⟩)) := hN.1 rfl
        clear hN
        unfold StepTo
        simp only [putAll, Act.put, List.setIfInBounds_toArray, List.set_cons_succ, List.set_cons_zero, r21]
        clear r21
        obtain ⟨m1, m2, m3, m4, m5, m6, m7, m8⟩ := HX.out wx ox
        go_wp2_with fail
        exact ⟨rfl, _, rfl, HTT.out _ _ (rfl) (Only.refl _ _)⟩
      · intro x wx ox hN TT HTT
        clear hN
        unfold StepTo
        simp only [putAll, Act.put, List.setIfInBounds_toArray, List.set_cons_succ, List.set_cons_zero]
        go_wp2_with fail
        exact ⟨rfl, _, rfl, HTT.out _ _ (rfl) (Only.refl _ _)⟩
      · intro x wx ox hN TT HTT
        clear hN
        unfold StepTo
        simp only [putAll, Act.put, List.setIfInBounds_toArray, List.set_cons_succ, List.set_cons_zero]
        go_wp2_with fail
        exact ⟨rfl, _, rfl, HTT.out _ _ (rfl) (Only.refl _ _)⟩
      · intro x wx ox hN TT HTT
        have r23 : x 5 = (.slice (some ⟨g', o', none⟩) L c') := hN.1 rfl
        have r24 : x 6 = (.int .i64 (i : Int)) := hN.2.1 rfl
        clear hN
        unfold StepTo
        simp only [putAll, Act.put, List.setIfInBounds_toArray, List.set_cons_succ, List.set_cons_zero, r23, r24]
        clear r23 r24
        go_wp2_with fail
        exact ⟨rfl, _, rfl, HTT.out _ _ (rfl) (Only.refl _ _)⟩
      · intro x wx ox hN TT HTT
        have r25 : x 7 = (.pointer (some ⟨g', o' + i * 4, none⟩)) := hN.1 rfl
        clear hN
        unfold StepTo
        simp only [putAll, Act.put, List.setIfInBounds_toArray, List.set_cons_succ, List.set_cons_zero, r25]
        clear r25
        go_wp2_with fail
        exact ⟨rfl, _, rfl, HTT.out _ _ (rfl) (Only.refl _ _)⟩
      · intro x wx ox hN TT HTT
        have r26 : x 8 = (.pointer (some ⟨g', o' + i * 4, none⟩)) := hN.1 rfl
        clear hN
        unfold StepTo
        simp only [putAll, Act.put, List.setIfInBounds_toArray, List.set_cons_succ, List.set_cons_zero, r26]
        clear r26
        obtain ⟨m1, m2, m3, m4, m5, m6, m7, m8⟩ := HX.out wx ox
        go_wp2_with fail
        exact ⟨rfl, _, rfl, HTT.out _ _ (rfl) (Only.refl _ _)⟩
      · intro x wx ox hN TT HTT
        have r22 : x 4 = (.int .u8 (kk : Int)) := hN.1 rfl
        have r27 : x 9 = (.int .u8 (kk : Int)) := hN.2.1 rfl
        clear hN
        unfold StepTo
        simp only [putAll, Act.put, List.setIfInBounds_toArray, List.set_cons_succ, List.set_cons_zero, r22, r27]
        clear r22 r27
        go_wp2_with fail
        exact ⟨rfl, _, rfl, HTT.out _ _ (rfl) (Only.refl _ _)⟩
      · intro x wx ox hN TT HTT
        have r28 : x 10 = (.bool false) := hN.1 rfl
        clear hN
        unfold StepTo
        simp only [putAll, Act.put, List.setIfInBounds_toArray, List.set_cons_succ, List.set_cons_zero, r28]
        clear r28
        go_wp2_with fail
        exact ⟨rfl, _, rfl, HTT.out _ _ (rfl) (Only.refl _ _)⟩
      · intro x wx ox hN TT HTT
        have r29 : x 11 = (.bool false) := hN.1 rfl
        clear hN
        unfold StepTo
        simp only [putAll, Act.put, List.setIfInBounds_toArray, List.set_cons_succ, List.set_cons_zero, r29]
        clear r29
        go_wp2_with fail
        exact ⟨rfl, _, rfl, HTT.out _ _ (rfl) (Only.refl _ _)⟩
      · intro x wx ox hN TT HTT
        have r29 : x 11 = (.bool false) := hN.1 rfl
        clear hN
        unfold StepTo
        simp only [putAll, Act.put, List.setIfInBounds_toArray, List.set_cons_succ, List.set_cons_zero, r29]
        clear r29
        go_wp2_with fail
        exact ⟨rfl, _, rfl, HTT.out _ _ (rfl) (Only.refl _ _)⟩
      · intro x wx ox hN TT HTT
        have r30 : x 12 = (.slice (some ⟨g, o, none⟩) L c) := hN.1 rfl
        have r31 : x 13 = (.int .i64 (i : Int)) := hN.2.1 rfl
        have r29 : x 11 = (.bool false) := hN.2.2.1 rfl
        clear hN
        unfold StepTo
        simp only [putAll, Act.put, List.setIfInBounds_toArray, List.set_cons_succ, List.set_cons_zero, r30, r31, r29]
        clear r30 r31 r29
        go_wp2_with fail
        exact ⟨rfl, _, rfl, HTT.out _ _ (rfl) (Only.refl _ _)⟩
      · intro x wx ox hN TT HTT
        have r32 : x 14 = (.pointer (some ⟨g, o + i * 4, none⟩)) := hN.1 rfl
        have r29 : x 11 = (.bool false) := hN.2.1 rfl
        clear hN
        unfold StepTo
        simp only [putAll, Act.put, List.setIfInBounds_toArray, List.set_cons_succ, List.set_cons_zero, r32, r29]
        clear r32 r29
        go_wp2_with fail
        exact ⟨rfl, _, rfl, HTT.out _ _ (rfl) (Only.refl _ _)⟩
      · intro x wx ox hN TT HTT
        have r33 : x 15 = (.pointer (some ⟨g, o + i * 4 + 1, none⟩)) := hN.1 rfl
        have r29 : x 11 = (.bool false) := hN.2.1 rfl
        clear hN
        unfold StepTo
        simp only [putAll, Act.put, List.setIfInBounds_toArray, List.set_cons_succ, List.set_cons_zero, r33, r29]
        clear r33 r29
        obtain ⟨m1, m2, m3, m4, m5, m6, m7, m8⟩ := HX.out wx ox
        go_wp2_with fail
        exact ⟨rfl, _, rfl, HTT.out _ _ (rfl) (Only.refl _ _)⟩
      · intro x wx ox hN TT HTT
        have r29 : x 11 = (.bool false) := hN.1 rfl
        clear hN
        unfold StepTo
        simp only [putAll, Act.put, List.setIfInBounds_toArray, List.set_cons_succ, List.set_cons_zero, r29]
        clear r29
        go_wp2_with fail
        exact ⟨rfl, _, rfl, HTT.out _ _ (rfl) (Only.refl _ _)⟩
      · intro x wx ox hN TT HTT
        have r29 : x 11 = (.bool false) := hN.1 rfl
        clear hN
        unfold StepTo
        simp only [putAll, Act.put, List.setIfInBounds_toArray, List.set_cons_succ, List.set_cons_zero, r29]
        clear r29
        go_wp2_with fail
        exact ⟨rfl, _, rfl, HTT.out _ _ (rfl) (Only.refl _ _)⟩
      · intro x wx ox hN TT HTT
        have r35 : x 17 = (.slice (some ⟨g', o', none⟩) L c') := hN.1 rfl
        have r36 : x 18 = (.int .i64 (i : Int)) := hN.2.1 rfl
        have r29 : x 11 = (.bool false) := hN.2.2.1 rfl
        clear hN
        unfold StepTo
        simp only [putAll, Act.put, List.setIfInBounds_toArray, List.set_cons_succ, List.set_cons_zero, r35, r36, r29]
        clear r35 r36 r29
        go_wp2_with fail
        exact ⟨rfl, _, rfl, HTT.out _ _ (rfl) (Only.refl _ _)⟩
      · intro x wx ox hN TT HTT
        have r37 : x 19 = (.pointer (some ⟨g', o' + i * 4, none⟩)) := hN.1 rfl
        have r29 : x 11 = (.bool false) := hN.2.1 rfl
        clear hN
        unfold StepTo
        simp only [putAll, Act.put, List.setIfInBounds_toArray, List.set_cons_succ, List.set_cons_zero, r37, r29]
        clear r37 r29
        go_wp2_with fail
        exact ⟨rfl, _, rfl, HTT.out _ _ (rfl) (Only.refl _ _)⟩
      · intro x wx ox hN TT HTT
        have r38 : x 20 = (.pointer (some ⟨g', o' + i * 4 + 1, none⟩)) := hN.1 rfl
        have r29 : x 11 = (.bool false) := hN.2.1 rfl
        clear hN
        unfold StepTo
        simp only [putAll, Act.put, List.setIfInBounds_toArray, List.set_cons_succ, List.set_cons_zero, r38, r29]
        clear r38 r29
        obtain ⟨m1, m2, m3, m4, m5, m6, m7, m8⟩ := HX.out wx ox
        go_wp2_with fail
        exact ⟨rfl, _, rfl, HTT.out _ _ (rfl) (Only.refl _ _)⟩
      · intro x wx ox hN TT HTT
        have r34 : x 16 = (.string ⟨nm.toArray⟩) := hN.1 rfl
        have r39 : x 21 = (.string ⟨nm.toArray⟩) := hN.2.1 rfl
        have r29 : x 11 = (.bool false) := hN.2.2.1 rfl
        clear hN
        unfold StepTo
        simp only [putAll, Act.put, List.setIfInBounds_toArray, List.set_cons_succ, List.set_cons_zero, r34, r39, r29]
        clear r34 r39 r29
        go_wp2_with fail
        exact ⟨rfl, _, rfl, HTT.out _ _ (rfl) (Only.refl _ _)⟩
      · intro x wx ox hN TT HTT
        have r29 : x 11 = (.bool false) := hN.1 rfl
        have r40 : x 22 = (.bool false) := hN.2.1 rfl
        clear hN
        unfold StepTo
        simp only [putAll, Act.put, List.setIfInBounds_toArray, List.set_cons_succ, List.set_cons_zero, r29, r40]
        clear r29 r40
        go_wp2_with fail
        exact ⟨rfl, _, rfl, HTT.out _ _ (rfl) (Only.refl _ _)⟩
      · intro x wx ox hN TT HTT
        have r41 : x 23 = (.bool false) := hN.1 rfl
        have r29 : x 11 = (.bool false) := hN.2.1 rfl
        clear hN
        unfold StepTo
        simp only [putAll, Act.put, List.setIfInBounds_toArray, List.set_cons_succ, List.set_cons_zero, r41, r29]
        clear r41 r29
        go_wp2_with fail
        exact ⟨rfl, _, rfl, HTT.out _ _ (rfl) (Only.refl _ _)⟩
      · intro x wx ox hN TT HTT
        have r42 : x 24 = (.bool false) := hN.1 rfl
        clear hN
        unfold StepTo
        simp only [putAll, Act.put, List.setIfInBounds_toArray, List.set_cons_succ, List.set_cons_zero, r42]
        clear r42
        go_wp2_with fail
        exact ⟨rfl, _, rfl, HTT.out _ _ (rfl) (Only.refl _ _)⟩
      · intro x wx ox hN TT HTT
        have r42 : x 24 = (.bool false) := hN.1 rfl
        clear hN
        unfold StepTo
        simp only [putAll, Act.put, List.setIfInBounds_toArray, List.set_cons_succ, List.set_cons_zero, r42]
        clear r42
        go_wp2_with fail
        exact ⟨rfl, _, rfl, HTT.out _ _ (rfl) (Only.refl _ _)⟩
      · intro x wx ox hN TT HTT
        have r43 : x 25 = (.slice (some ⟨g, o, none⟩) L c) := hN.1 rfl
        have r44 : x 26 = (.int .i64 (i : Int)) := hN.2.1 rfl
        have r42 : x 24 = (.bool false) := hN.2.2.1 rfl
        clear hN
        unfold StepTo
        simp only [putAll, Act.put, List.setIfInBounds_toArray, List.set_cons_succ, List.set_cons_zero, r43, r44, r42]
        clear r43 r44 r42
        go_wp2_with fail
        exact ⟨rfl, _, rfl, HTT.out _ _ (rfl) (Only.refl _ _)⟩
      · intro x wx ox hN TT HTT
        have r45 : x 27 = (.pointer (some ⟨g, o + i * 4, none⟩)) := hN.1 rfl
        have r42 : x 24 = (.bool false) := hN.2.1 rfl
        clear hN
        unfold StepTo
        simp only [putAll, Act.put, List.setIfInBounds_toArray, List.set_cons_succ, List.set_cons_zero, r45, r42]
        clear r45 r42
        go_wp2_with fail
        exact ⟨rfl, _, rfl, HTT.out _ _ (rfl) (Only.refl _ _)⟩
      · intro x wx ox hN TT HTT
        have r46 : x 28 = (.pointer (some ⟨g, o + i * 4 + 3, none⟩)) := hN.1 rfl
        have r42 : x 24 = (.bool false) := hN.2.1 rfl
        clear hN
        unfold StepTo
        simp only [putAll, Act.put, List.setIfInBounds_toArray, List.set_cons_succ, List.set_cons_zero, r46, r42]
        clear r46 r42
        obtain ⟨m1, m2, m3, m4, m5, m6, m7, m8⟩ := HX.out wx ox
        go_wp2_with fail
        exact ⟨rfl, _, rfl, HTT.out _ _ (rfl) (Only.refl _ _)⟩
      · intro x wx ox hN TT HTT
        have r47 : x 29 = (.slice an LN cn) := hN.1 rfl
        have r42 : x 24 = (.bool false) := hN.2.1 rfl
        clear hN
        unfold StepTo
        simp only [putAll, Act.put, List.setIfInBounds_toArray, List.set_cons_succ, List.set_cons_zero, r47, r42]
        clear r47 r42
        go_wp2_with fail
        exact ⟨rfl, _, rfl, HTT.out _ _ (rfl) (Only.refl _ _)⟩
      · intro x wx ox hN TT HTT
        have r42 : x 24 = (.bool false) := hN.1 rfl
        clear hN
        unfold StepTo
        simp only [putAll, Act.put, List.setIfInBounds_toArray, List.set_cons_succ, List.set_cons_zero, r42]
        clear r42
        go_wp2_with fail
        exact ⟨rfl, _, rfl, HTT.out _ _ (rfl) (Only.refl _ _)⟩
      · intro x wx ox hN TT HTT
        have r42 : x 24 = (.bool false) := hN.1 rfl
        clear hN
        unfold StepTo
        simp only [putAll, Act.put, List.setIfInBounds_toArray, List.set_cons_succ, List.set_cons_zero, r42]
        clear r42
        go_wp2_with fail
        exact ⟨rfl, _, rfl, HTT.out _ _ (rfl) (Only.refl _ _)⟩
      · intro x wx ox hN TT HTT
        have r49 : x 31 = (.slice (some ⟨g', o', none⟩) L c') := hN.1 rfl
        have r50 : x 32 = (.int .i64 (i : Int)) := hN.2.1 rfl
        have r42 : x 24 = (.bool false) := hN.2.2.1 rfl
        clear hN
        unfold StepTo
        simp only [putAll, Act.put, List.setIfInBounds_toArray, List.set_cons_succ, List.set_cons_zero, r49, r50, r42]
        clear r49 r50 r42
        go_wp2_with fail
        exact ⟨rfl, _, rfl, HTT.out _ _ (rfl) (Only.refl _ _)⟩
      · intro x wx ox hN TT HTT
        have r51 : x 33 = (.pointer (some ⟨g', o' + i * 4, none⟩)) := hN.1 rfl
        have r42 : x 24 = (.bool false) := hN.2.1 rfl
        clear hN
        unfold StepTo
        simp only [putAll, Act.put, List.setIfInBounds_toArray, List.set_cons_succ, List.set_cons_zero, r51, r42]
        clear r51 r42
        go_wp2_with fail
        exact ⟨rfl, _, rfl, HTT.out _ _ (rfl) (Only.refl _ _)⟩
      · intro x wx ox hN TT HTT
        have r52 : x 34 = (.pointer (some ⟨g', o' + i * 4 + 3, none⟩)) := hN.1 rfl
        have r42 : x 24 = (.bool false) := hN.2.1 rfl
        clear hN
        unfold StepTo
        simp only [putAll, Act.put, List.setIfInBounds_toArray, List.set_cons_succ, List.set_cons_zero, r52, r42]
        clear r52 r42
        obtain ⟨m1, m2, m3, m4, m5, m6, m7, m8⟩ := HX.out wx ox
        go_wp2_with fail
        exact ⟨rfl, _, rfl, HTT.out _ _ (rfl) (Only.refl _ _)⟩
      · intro x wx ox hN TT HTT
        have r53 : x 35 = (.slice an' LN cn') := hN.1 rfl
        have r42 : x 24 = (.bool false) := hN.2.1 rfl
        clear hN
        unfold StepTo
        simp only [putAll, Act.put, List.setIfInBounds_toArray, List.set_cons_succ, List.set_cons_zero, r53, r42]
        clear r53 r42
        go_wp2_with fail
        exact ⟨rfl, _, rfl, HTT.out _ _ (rfl) (Only.refl _ _)⟩
      · intro x wx ox hN TT HTT
        have r48 : x 30 = (.int .i64 (LN : Int)) := hN.1 rfl
        have r54 : x 36 = (.int .i64 (LN : Int)) := hN.2.1 rfl
        have r42 : x 24 = (.bool false) := hN.2.2.1 rfl
        clear hN
        unfold StepTo
        simp only [putAll, Act.put, List.setIfInBounds_toArray, List.set_cons_succ, List.set_cons_zero, r48, r54, r42]
        clear r48 r54 r42
        go_wp2_with fail
        exact ⟨rfl, _, rfl, HTT.out _ _ (rfl) (Only.refl _ _)⟩
      · intro x wx ox hN TT HTT
        have r42 : x 24 = (.bool false) := hN.1 rfl
        have r55 : x 37 = (.bool false) := hN.2.1 rfl
        clear hN
        unfold StepTo
        simp only [putAll, Act.put, List.setIfInBounds_toArray, List.set_cons_succ, List.set_cons_zero, r42, r55]
        clear r42 r55
        go_wp2_with fail
        exact ⟨rfl, _, rfl, HTT.out _ _ (rfl) (Only.refl _ _)⟩
      · intro x wx ox hN TT HTT
        have r56 : x 38 = (.bool false) := hN.1 rfl
        have r42 : x 24 = (.bool false) := hN.2.1 rfl
        clear hN
        unfold StepTo
        simp only [putAll, Act.put, List.setIfInBounds_toArray, List.set_cons_succ, List.set_cons_zero, r56, r42]
        clear r56 r42
        go_wp2_with fail
        exact ⟨rfl, _, rfl, HTT.out _ _ (rfl) (Only.refl _ _)⟩
      · intro x wx ox hN TT HTT
        have r57 : x 39 = (.bool false) := hN.1 rfl
        clear hN
        unfold StepTo
        simp only [putAll, Act.put, List.setIfInBounds_toArray, List.set_cons_succ, List.set_cons_zero, r57]
        clear r57
        go_wp2_with fail
        exact ⟨rfl, _, rfl, HTT.out _ _ (rfl) (Only.refl _ _)⟩
      · intro x wx ox hN TT HTT
        have r57 : x 39 = (.bool false) := hN.1 rfl
        clear hN
        unfold StepTo
        simp only [putAll, Act.put, List.setIfInBounds_toArray, List.set_cons_succ, List.set_cons_zero, r57]
        clear r57
        go_wp2_with fail
        exact ⟨rfl, _, rfl, HTT.out _ _ (rfl) (Only.refl _ _)⟩
      · intro x wx ox hN TT HTT
        have r58 : x 40 = (.slice (some ⟨g, o, none⟩) L c) := hN.1 rfl
        have r59 : x 41 = (.int .i64 (i : Int)) := hN.2.1 rfl
        have r57 : x 39 = (.bool false) := hN.2.2.1 rfl
        clear hN
        unfold StepTo
        simp only [putAll, Act.put, List.setIfInBounds_toArray, List.set_cons_succ, List.set_cons_zero, r58, r59, r57]
        clear r58 r59 r57
        go_wp2_with fail
        exact ⟨rfl, _, rfl, HTT.out _ _ (rfl) (Only.refl _ _)⟩
      · intro x wx ox hN TT HTT
        have r60 : x 42 = (.pointer (some ⟨g, o + i * 4, none⟩)) := hN.1 rfl
        have r57 : x 39 = (.bool false) := hN.2.1 rfl
        clear hN
        unfold StepTo
        simp only [putAll, Act.put, List.setIfInBounds_toArray, List.set_cons_succ, List.set_cons_zero, r60, r57]
        clear r60 r57
        go_wp2_with fail
        exact ⟨rfl, _, rfl, HTT.out _ _ (rfl) (Only.refl _ _)⟩
      · intro x wx ox hN TT HTT
        have r61 : x 43 = (.pointer (some ⟨g, o + i * 4 + 2, none⟩)) := hN.1 rfl
        have r57 : x 39 = (.bool false) := hN.2.1 rfl
        clear hN
        unfold StepTo
        simp only [putAll, Act.put, List.setIfInBounds_toArray, List.set_cons_succ, List.set_cons_zero, r61, r57]
        clear r61 r57
        obtain ⟨m1, m2, m3, m4, m5, m6, m7, m8⟩ := HX.out wx ox
        go_wp2_with fail
        exact ⟨rfl, _, rfl, HTT.out _ _ (rfl) (Only.refl _ _)⟩
      · intro x wx ox hN TT HTT
        have r57 : x 39 = (.bool false) := hN.1 rfl
        clear hN
        unfold StepTo
        simp only [putAll, Act.put, List.setIfInBounds_toArray, List.set_cons_succ, List.set_cons_zero, r57]
        clear r57
        go_wp2_with fail
        exact ⟨rfl, _, rfl, HTT.out _ _ (rfl) (Only.refl _ _)⟩
      · intro x wx ox hN TT HTT
        have r57 : x 39 = (.bool false) := hN.1 rfl
        clear hN
        unfold StepTo
        simp only [putAll, Act.put, List.setIfInBounds_toArray, List.set_cons_succ, List.set_cons_zero, r57]
        clear r57
        go_wp2_with fail
        exact ⟨rfl, _, rfl, HTT.out _ _ (rfl) (Only.refl _ _)⟩
      · intro x wx ox hN TT HTT
        have r63 : x 45 = (.slice (some ⟨g', o', none⟩) L c') := hN.1 rfl
        have r64 : x 46 = (.int .i64 (i : Int)) := hN.2.1 rfl
        have r57 : x 39 = (.bool false) := hN.2.2.1 rfl
        clear hN
        unfold StepTo
        simp only [putAll, Act.put, List.setIfInBounds_toArray, List.set_cons_succ, List.set_cons_zero, r63, r64, r57]
        clear r63 r64 r57
        go_wp2_with fail
        exact ⟨rfl, _, rfl, HTT.out _ _ (rfl) (Only.refl _ _)⟩
      · intro x wx ox hN TT HTT
        have r65 : x 47 = (.pointer (some ⟨g', o' + i * 4, none⟩)) := hN.1 rfl
        have r57 : x 39 = (.bool false) := hN.2.1 rfl
        clear hN
        unfold StepTo
        simp only [putAll, Act.put, List.setIfInBounds_toArray, List.set_cons_succ, List.set_cons_zero, r65, r57]
        clear r65 r57
        go_wp2_with fail
        exact ⟨rfl, _, rfl, HTT.out _ _ (rfl) (Only.refl _ _)⟩
      · intro x wx ox hN TT HTT
        have r66 : x 48 = (.pointer (some ⟨g', o' + i * 4 + 2, none⟩)) := hN.1 rfl
        have r57 : x 39 = (.bool false) := hN.2.1 rfl
        clear hN
        unfold StepTo
        simp only [putAll, Act.put, List.setIfInBounds_toArray, List.set_cons_succ, List.set_cons_zero, r66, r57]
        clear r66 r57
        obtain ⟨m1, m2, m3, m4, m5, m6, m7, m8⟩ := HX.out wx ox
        go_wp2_with fail
        exact ⟨rfl, _, rfl, HTT.out _ _ (rfl) (Only.refl _ _)⟩
      · intro x wx ox hN TT HTT
        have r62 : x 44 = (.slice af LF cf) := hN.1 rfl
        have r67 : x 49 = (.slice af' LF cf') := hN.2.1 rfl
        have r57 : x 39 = (.bool false) := hN.2.2.1 rfl
        clear hN
        unfold StepTo
        simp only [putAll, Act.put, List.setIfInBounds_toArray, List.set_cons_succ, List.set_cons_zero, r62, r67, r57]
        clear r62 r67 r57
        have ht := HREC.out wx ox
        have HT := Lib.hid ht; clear ht
        go_wp2_with fail
        refine HT.out.mono ?_
        rintro e w6 ⟨rfl, o6⟩
        have O6 := Lib.hid o6; clear o6
        go_wp2_with fail
        exact ⟨rfl, _, rfl, HTT.out _ _ (rfl) (O6.out)⟩
      · intro x wx ox hN TT HTT
        have r68 : x 50 = (.bool true) := hN.1 rfl
        have r57 : x 39 = (.bool false) := hN.2.1 rfl
        clear hN
        unfold StepTo
        simp only [putAll, Act.put, List.setIfInBounds_toArray, List.set_cons_succ, List.set_cons_zero, r68, r57]
        clear r68 r57
        go_wp2_with fail
        exact ⟨rfl, _, rfl, HTT.out _ _ (rfl) (Only.refl _ _)⟩
      intro xz wxz oxz hN
      have r18 : xz 0 = (.slice (some ⟨g, o, none⟩) L c) := hN.1
      have r19 : xz 1 = (.int .i64 (i : Int)) := hN.2.1
      have r20 : xz 2 = (.pointer (some ⟨g, o + i * 4, none⟩)) := hN.2.2.1
      have r21 : xz 3 = (.pointer (some ⟨g, o + i * 4, none⟩)) := hN.2.2.2.1
      have r22 : xz 4 = (.int .u8 (kk : Int)) := hN.2.2.2.2.1
      have r23 : xz 5 = (.slice (some ⟨g', o', none⟩) L c') := hN.2.2.2.2.2.1
      have r24 : xz 6 = (.int .i64 (i : Int)) := hN.2.2.2.2.2.2.1
      have r25 : xz 7 = (.pointer (some ⟨g', o' + i * 4, none⟩)) := hN.2.2.2.2.2.2.2.1
      have r26 : xz 8 = (.pointer (some ⟨g', o' + i * 4, none⟩)) := hN.2.2.2.2.2.2.2.2.1
      have r27 : xz 9 = (.int .u8 (kk : Int)) := hN.2.2.2.2.2.2.2.2.2.1
      have r28 : xz 10 = (.bool false) := hN.2.2.2.2.2.2.2.2.2.2.1
      have r29 : xz 11 = (.bool false) := hN.2.2.2.2.2.2.2.2.2.2.2.1
      have r30 : xz 12 = (.slice (some ⟨g, o, none⟩) L c) := hN.2.2.2.2.2.2.2.2.2.2.2.2.1
      have r31 : xz 13 = (.int .i64 (i : Int)) := hN.2.2.2.2.2.2.2.2.2.2.2.2.2.1
      have r32 : xz 14 = (.pointer (some ⟨g, o + i * 4, none⟩)) := hN.2.2.2.2.2.2.2.2.2.2.2.2.2.2.1
      have r33 : xz 15 = (.pointer (some ⟨g, o + i * 4 + 1, none⟩)) := hN.2.2.2.2.2.2.2.2.2.2.2.2.2.2.2.1
      have r34 : xz 16 = (.string ⟨nm.toArray⟩) := hN.2.2.2.2.2.2.2.2.2.2.2.2.2.2.2.2.1
      have r35 : xz 17 = (.slice (some ⟨g', o', none⟩) L c') := hN.2.2.2.2.2.2.2.2.2.2.2.2.2.2.2.2.2.1
      have r36 : xz 18 = (.int .i64 (i : Int)) := hN.2.2.2.2.2.2.2.2.2.2.2.2.2.2.2.2.2.2.1
      have r37 : xz 19 = (.pointer (some ⟨g', o' + i * 4, none⟩)) := hN.2.2.2.2.2.2.2.2.2.2.2.2.2.2.2.2.2.2.2.1
      have r38 : xz 20 = (.pointer (some ⟨g', o' + i * 4 + 1, none⟩)) := hN.2.2.2.2.2.2.2.2.2.2.2.2.2.2.2.2.2.2.2.2.1
      have r39 : xz 21 = (.string ⟨nm.toArray⟩) := hN.2.2.2.2.2.2.2.2.2.2.2.2.2.2.2.2.2.2.2.2.2.1
      have r40 : xz 22 = (.bool false) := hN.2.2.2.2.2.2.2.2.2.2.2.2.2.2.2.2.2.2.2.2.2.2.1
      have r41 : xz 23 = (.bool false) := hN.2.2.2.2.2.2.2.2.2.2.2.2.2.2.2.2.2.2.2.2.2.2.2.1
      have r42 : xz 24 = (.bool false) := hN.2.2.2.2.2.2.2.2.2.2.2.2.2.2.2.2.2.2.2.2.2.2.2.2.1
      have r43 : xz 25 = (.slice (some ⟨g, o, none⟩) L c) := hN.2.2.2.2.2.2.2.2.2.2.2.2.2.2.2.2.2.2.2.2.2.2.2.2.2.1
      have r44 : xz 26 = (.int .i64 (i : Int)) := hN.2.2.2.2.2.2.2.2.2.2.2.2.2.2.2.2.2.2.2.2.2.2.2.2.2.2.1
      have r45 : xz 27 = (.pointer (some ⟨g, o + i * 4, none⟩)) := hN.2.2.2.2.2.2.2.2.2.2.2.2.2.2.2.2.2.2.2.2.2.2.2.2.2.2.2.1
      have r46 : xz 28 = (.pointer (some ⟨g, o + i * 4 + 3, none⟩)) := hN.2.2.2.2.2.2.2.2.2.2.2.2.2.2.2.2.2.2.2.2.2.2.2.2.2.2.2.2.1
      have r47 : xz 29 = (.slice an LN cn) := hN.2.2.2.2.2.2.2.2.2.2.2.2.2.2.2.2.2.2.2.2.2.2.2.2.2.2.2.2.2.1
      have r48 : xz 30 = (.int .i64 (LN : Int)) := hN.2.2.2.2.2.2.2.2.2.2.2.2.2.2.2.2.2.2.2.2.2.2.2.2.2.2.2.2.2.2.1
      have r49 : xz 31 = (.slice (some ⟨g', o', none⟩) L c') := hN.2.2.2.2.2.2.2.2.2.2.2.2.2.2.2.2.2.2.2.2.2.2.2.2.2.2.2.2.2.2.2.1
      have r50 : xz 32 = (.int .i64 (i : Int)) := hN.2.2.2.2.2.2.2.2.2.2.2.2.2.2.2.2.2.2.2.2.2.2.2.2.2.2.2.2.2.2.2.2.1
      have r51 : xz 33 = (.pointer (some ⟨g', o' + i * 4, none⟩)) := hN.2.2.2.2.2.2.2.2.2.2.2.2.2.2.2.2.2.2.2.2.2.2.2.2.2.2.2.2.2.2.2.2.2.1
      have r52 : xz 34 = (.pointer (some ⟨g', o' + i * 4 + 3, none⟩)) := hN.2.2.2.2.2.2.2.2.2.2.2.2.2.2.2.2.2.2.2.2.2.2.2.2.2.2.2.2.2.2.2.2.2.2.1
      have r53 : xz 35 = (.slice an' LN cn') := hN.2.2.2.2.2.2.2.2.2.2.2.2.2.2.2.2.2.2.2.2.2.2.2.2.2.2.2.2.2.2.2.2.2.2.2.1
      have r54 : xz 36 = (.int .i64 (LN : Int)) := hN.2.2.2.2.2.2.2.2.2.2.2.2.2.2.2.2.2.2.2.2.2.2.2.2.2.2.2.2.2.2.2.2.2.2.2.2.1
      have r55 : xz 37 = (.bool false) := hN.2.2.2.2.2.2.2.2.2.2.2.2.2.2.2.2.2.2.2.2.2.2.2.2.2.2.2.2.2.2.2.2.2.2.2.2.2.1
      have r56 : xz 38 = (.bool false) := hN.2.2.2.2.2.2.2.2.2.2.2.2.2.2.2.2.2.2.2.2.2.2.2.2.2.2.2.2.2.2.2.2.2.2.2.2.2.2.1
      have r57 : xz 39 = (.bool false) := hN.2.2.2.2.2.2.2.2.2.2.2.2.2.2.2.2.2.2.2.2.2.2.2.2.2.2.2.2.2.2.2.2.2.2.2.2.2.2.2.1
      have r58 : xz 40 = (.slice (some ⟨g, o, none⟩) L c) := hN.2.2.2.2.2.2.2.2.2.2.2.2.2.2.2.2.2.2.2.2.2.2.2.2.2.2.2.2.2.2.2.2.2.2.2.2.2.2.2.2.1
      have r59 : xz 41 = (.int .i64 (i : Int)) := hN.2.2.2.2.2.2.2.2.2.2.2.2.2.2.2.2.2.2.2.2.2.2.2.2.2.2.2.2.2.2.2.2.2.2.2.2.2.2.2.2.2.1
      have r60 : xz 42 = (.pointer (some ⟨g, o + i * 4, none⟩)) := hN.2.2.2.2.2.2.2.2.2.2.2.2.2.2.2.2.2.2.2.2.2.2.2.2.2.2.2.2.2.2.2.2.2.2.2.2.2.2.2.2.2.2.1
      have r61 : xz 43 = (.pointer (some ⟨g, o + i * 4 + 2, none⟩)) := hN.2.2.2.2.2.2.2.2.2.2.2.2.2.2.2.2.2.2.2.2.2.2.2.2.2.2.2.2.2.2.2.2.2.2.2.2.2.2.2.2.2.2.2.1
      have r62 : xz 44 = (.slice af LF cf) := hN.2.2.2.2.2.2.2.2.2.2.2.2.2.2.2.2.2.2.2.2.2.2.2.2.2.2.2.2.2.2.2.2.2.2.2.2.2.2.2.2.2.2.2.2.1
      have r63 : xz 45 = (.slice (some ⟨g', o', none⟩) L c') := hN.2.2.2.2.2.2.2.2.2.2.2.2.2.2.2.2.2.2.2.2.2.2.2.2.2.2.2.2.2.2.2.2.2.2.2.2.2.2.2.2.2.2.2.2.2.1
      have r64 : xz 46 = (.int .i64 (i : Int)) := hN.2.2.2.2.2.2.2.2.2.2.2.2.2.2.2.2.2.2.2.2.2.2.2.2.2.2.2.2.2.2.2.2.2.2.2.2.2.2.2.2.2.2.2.2.2.2.1
      have r65 : xz 47 = (.pointer (some ⟨g', o' + i * 4, none⟩)) := hN.2.2.2.2.2.2.2.2.2.2.2.2.2.2.2.2.2.2.2.2.2.2.2.2.2.2.2.2.2.2.2.2.2.2.2.2.2.2.2.2.2.2.2.2.2.2.2.1
      have r66 : xz 48 = (.pointer (some ⟨g', o' + i * 4 + 2, none⟩)) := hN.2.2.2.2.2.2.2.2.2.2.2.2.2.2.2.2.2.2.2.2.2.2.2.2.2.2.2.2.2.2.2.2.2.2.2.2.2.2.2.2.2.2.2.2.2.2.2.2.1
      have r67 : xz 49 = (.slice af' LF cf') := hN.2.2.2.2.2.2.2.2.2.2.2.2.2.2.2.2.2.2.2.2.2.2.2.2.2.2.2.2.2.2.2.2.2.2.2.2.2.2.2.2.2.2.2.2.2.2.2.2.2.1
      have r68 : xz 50 = (.bool true) := hN.2.2.2.2.2.2.2.2.2.2.2.2.2.2.2.2.2.2.2.2.2.2.2.2.2.2.2.2.2.2.2.2.2.2.2.2.2.2.2.2.2.2.2.2.2.2.2.2.2.2.1
      have r69 : xz 51 = (.bool false) := hN.2.2.2.2.2.2.2.2.2.2.2.2.2.2.2.2.2.2.2.2.2.2.2.2.2.2.2.2.2.2.2.2.2.2.2.2.2.2.2.2.2.2.2.2.2.2.2.2.2.2.2.1
      clear hN
      simp only [putAll, Act.put, List.setIfInBounds_toArray, List.set_cons_succ, List.set_cons_zero, r18, r19, r20, r21, r22, r23, r24, r25, r26, r27, r28, r29, r30, r31, r32, r33, r34, r35, r36, r37, r38, r39, r40, r41, r42, r43, r44, r45, r46, r47, r48, r49, r50, r51, r52, r53, r54, r55, r56, r57, r58, r59, r60, r61, r62, r63, r64, r65, r66, r67, r68, r69]
      clear r18 r19 r20 r21 r22 r23 r24 r25 r26 r27 r28 r29 r30 r31 r32 r33 r34 r35 r36 r37 r38 r39 r40 r41 r42 r43 r44 r45 r46 r47 r48 r49 r50 r51 r52 r53 r54 r55 r56 r57 r58 r59 r60 r61 r62 r63 r64 r65 r66 r67 r68 r69
      have OZ := Lib.hid (HO.out.trans ((Only.refl _ wr).drew.trans oxz)); clear oxz
      go_wp2_with fail
      go_loopw [6] (fun v w8 => ∃ j : Nat, v = .int .i64 (j : Int) ∧ j ≤ LN ∧ Hid (Only (fun _ => False) w w8)) (fun v _ => LN - (intOf v).toNat)
      case atStart => exact ⟨0, by simp, by omega, OZ⟩
      case round =>
        clear OZ
        obtain ⟨j, rfl, hj, HP⟩ := hrel
        obtain ⟨e3, f3⟩ := HE.out
        have e3 := keepc HP.out e3
        have f3 := keepc HP.out f3
        by_cases hltj : j < LN
        · have t4 : decide ((j : Int) < (LN : Int)) = true := by simpa using hltj
          have hj0 : (0 : Int) ≤ (j : Int) := by omega
          have hj1 : (j : Int) < (LN : Int) := by omega
          have hjl : j < ns.length := by rw [HLN.out]; exact hltj
          obtain ⟨gd, od, ys, rfl, -, p1, p2⟩ := HN.out j hjl
          obtain ⟨gd', od', ys', rfl, -, p1', p2'⟩ := HN'.out j hjl
          have := str_cell p2; subst this
          have := str_cell p2'; subst this
          have p1 := p1 0 _ rfl
          have p1' := p1' 0 _ rfl
          rw [Nat.mul_one, Nat.add_zero] at p1 p1'
          generalize ns[j] = s at *
          have HX := Lib.hid (fun (wx : World) (ox : Only (fun _ => False) wr.drew wx) => have o := (Only.refl _ wr).drew.trans ox; have ow := HP.out.trans o; And.intro (keepc o e3) (And.intro (keepc o f3) (And.intro (keepc ow p1) (keepc ow p1'))))
          clear p1 p1' p2 p2'
          go_upto_region 11 with (fail)
          clear e3 f3
          refine wp_region_steps 16 (by kernel_rfl) rfl (by kernel_rfl) [some 81, some 82, some 83, some 84, some 85, some 86, some 87, some 88, some 89, some 90, some 91, some 92, some 93, some 94, some 95, some 96] rfl rfl (fun _ => False) [(fun v _ => v = (.slice (some ⟨g, o, none⟩) L c)), (fun v _ => v = (.int .i64 (i : Int))), (fun v _ => v = (.pointer (some ⟨g, o + i * 4, none⟩))), (fun v _ => v = (.pointer (some ⟨g, o + i * 4 + 3, none⟩))), (fun v _ => v = (.slice (some ⟨gd, od, none⟩) LN cn)), (fun v _ => v = (.int .i64 (j : Int))), (fun v _ => v = (.pointer (some ⟨gd, od + j, none⟩))), (fun v _ => v = (.string ⟨s.toArray⟩)), (fun v _ => v = (.slice (some ⟨g', o', none⟩) L c')), (fun v _ => v = (.int .i64 (i : Int))), (fun v _ => v = (.pointer (some ⟨g', o' + i * 4, none⟩))), (fun v _ => v = (.pointer (some ⟨g', o' + i * 4 + 3, none⟩))), (fun v _ => v = (.slice (some ⟨gd', od', none⟩) LN cn')), (fun v _ => v = (.int .i64 (j : Int))), (fun v _ => v = (.pointer (some ⟨gd', od' + j, none⟩))), (fun v _ => v = (.string ⟨s.toArray⟩))] rfl ⟨?_, ?_, ?_, ?_, ?_, ?_, ?_, ?_, ?_, ?_, ?_, ?_, ?_, ?_, ?_, ?_, trivial⟩ _ rfl ⟨?_, ?_, ?_, ?_, ?_, ?_, ?_, ?_, ?_, ?_, ?_, ?_, ?_, ?_, ?_, ?_, trivial⟩ ?_
          · exact Stable.is _ _
          · exact Stable.is _ _
          · exact Stable.is _ _
          · exact Stable.is _ _
          · exact Stable.is _ _
          · exact Stable.is _ _
          · exact Stable.is _ _
          · exact Stable.is _ _
          · exact Stable.is _ _
          · exact Stable.is _ _
          · exact Stable.is _ _
          · exact Stable.is _ _
          · exact Stable.is _ _
          · exact Stable.is _ _
          · exact Stable.is _ _
          · exact Stable.is _ _
          · intro x wx ox hN TT HTT
            clear hN
            unfold StepTo
            simp only [putAll, Act.put, List.setIfInBounds_toArray, List.set_cons_succ, List.set_cons_zero]
            go_wp2_with fail
            exact ⟨rfl, _, rfl, HTT.out _ _ (rfl) (Only.refl _ _)⟩
          · intro x wx ox hN TT HTT
            clear hN
            unfold StepTo
            simp only [putAll, Act.put, List.setIfInBounds_toArray, List.set_cons_succ, List.set_cons_zero]
            go_wp2_with fail
            exact ⟨rfl, _, rfl, HTT.out _ _ (rfl) (Only.refl _ _)⟩
          · intro x wx ox hN TT HTT
            have r81 : x 0 = (.slice (some ⟨g, o, none⟩) L c) := hN.1 rfl
            have r82 : x 1 = (.int .i64 (i : Int)) := hN.2.1 rfl
            clear hN
            unfold StepTo
            simp only [putAll, Act.put, List.setIfInBounds_toArray, List.set_cons_succ, List.set_cons_zero, r81, r82]
            clear r81 r82
            go_wp2_with fail
            exact ⟨rfl, _, rfl, HTT.out _ _ (rfl) (Only.refl _ _)⟩
          · intro x wx ox hN TT HTT
            have r83 : x 2 = (.pointer (some ⟨g, o + i * 4, none⟩)) := hN.1 rfl
            clear hN
            unfold StepTo
            simp only [putAll, Act.put, List.setIfInBounds_toArray, List.set_cons_succ, List.set_cons_zero, r83]
            clear r83
            go_wp2_with fail
            exact ⟨rfl, _, rfl, HTT.out _ _ (rfl) (Only.refl _ _)⟩
          · intro x wx ox hN TT HTT
            have r84 : x 3 = (.pointer (some ⟨g, o + i * 4 + 3, none⟩)) := hN.1 rfl
            clear hN
            unfold StepTo
            simp only [putAll, Act.put, List.setIfInBounds_toArray, List.set_cons_succ, List.set_cons_zero, r84]
            clear r84
            obtain ⟨m1, m2, m3, m4⟩ := HX.out wx ox
            go_wp2_with fail
            exact ⟨rfl, _, rfl, HTT.out _ _ (rfl) (Only.refl _ _)⟩
          · intro x wx ox hN TT HTT
            clear hN
            unfold StepTo
            simp only [putAll, Act.put, List.setIfInBounds_toArray, List.set_cons_succ, List.set_cons_zero]
            go_wp2_with fail
            exact ⟨rfl, _, rfl, HTT.out _ _ (rfl) (Only.refl _ _)⟩
          · intro x wx ox hN TT HTT
            have r85 : x 4 = (.slice (some ⟨gd, od, none⟩) LN cn) := hN.1 rfl
            have r86 : x 5 = (.int .i64 (j : Int)) := hN.2.1 rfl
            clear hN
            unfold StepTo
            simp only [putAll, Act.put, List.setIfInBounds_toArray, List.set_cons_succ, List.set_cons_zero, r85, r86]
            clear r85 r86
            go_wp2_with fail
            exact ⟨rfl, _, rfl, HTT.out _ _ (rfl) (Only.refl _ _)⟩
          · intro x wx ox hN TT HTT
            have r87 : x 6 = (.pointer (some ⟨gd, od + j, none⟩)) := hN.1 rfl
            clear hN
            unfold StepTo
            simp only [putAll, Act.put, List.setIfInBounds_toArray, List.set_cons_succ, List.set_cons_zero, r87]
            clear r87
            obtain ⟨m1, m2, m3, m4⟩ := HX.out wx ox
            go_wp2_with fail
            exact ⟨rfl, _, rfl, HTT.out _ _ (rfl) (Only.refl _ _)⟩
          · intro x wx ox hN TT HTT
            clear hN
            unfold StepTo
            simp only [putAll, Act.put, List.setIfInBounds_toArray, List.set_cons_succ, List.set_cons_zero]
            go_wp2_with fail
            exact ⟨rfl, _, rfl, HTT.out _ _ (rfl) (Only.refl _ _)⟩
          · intro x wx ox hN TT HTT
            clear hN
            unfold StepTo
            simp only [putAll, Act.put, List.setIfInBounds_toArray, List.set_cons_succ, List.set_cons_zero]
            go_wp2_with fail
            exact ⟨rfl, _, rfl, HTT.out _ _ (rfl) (Only.refl _ _)⟩
          · intro x wx ox hN TT HTT
            have r89 : x 8 = (.slice (some ⟨g', o', none⟩) L c') := hN.1 rfl
            have r90 : x 9 = (.int .i64 (i : Int)) := hN.2.1 rfl
            clear hN
            unfold StepTo
            simp only [putAll, Act.put, List.setIfInBounds_toArray, List.set_cons_succ, List.set_cons_zero, r89, r90]
            clear r89 r90
            go_wp2_with fail
            exact ⟨rfl, _, rfl, HTT.out _ _ (rfl) (Only.refl _ _)⟩
          · intro x wx ox hN TT HTT
            have r91 : x 10 = (.pointer (some ⟨g', o' + i * 4, none⟩)) := hN.1 rfl
            clear hN
            unfold StepTo
            simp only [putAll, Act.put, List.setIfInBounds_toArray, List.set_cons_succ, List.set_cons_zero, r91]
            clear r91
            go_wp2_with fail
            exact ⟨rfl, _, rfl, HTT.out _ _ (rfl) (Only.refl _ _)⟩
          · intro x wx ox hN TT HTT
            have r92 : x 11 = (.pointer (some ⟨g', o' + i * 4 + 3, none⟩)) := hN.1 rfl
            clear hN
            unfold StepTo
            simp only [putAll, Act.put, List.setIfInBounds_toArray, List.set_cons_succ, List.set_cons_zero, r92]
            clear r92
            obtain ⟨m1, m2, m3, m4⟩ := HX.out wx ox
            go_wp2_with fail
            exact ⟨rfl, _, rfl, HTT.out _ _ (rfl) (Only.refl _ _)⟩
          · intro x wx ox hN TT HTT
            clear hN
            unfold StepTo
            simp only [putAll, Act.put, List.setIfInBounds_toArray, List.set_cons_succ, List.set_cons_zero]
            go_wp2_with fail
            exact ⟨rfl, _, rfl, HTT.out _ _ (rfl) (Only.refl _ _)⟩
          · intro x wx ox hN TT HTT
            have r93 : x 12 = (.slice (some ⟨gd', od', none⟩) LN cn') := hN.1 rfl
            have r94 : x 13 = (.int .i64 (j : Int)) := hN.2.1 rfl
            clear hN
            unfold StepTo
            simp only [putAll, Act.put, List.setIfInBounds_toArray, List.set_cons_succ, List.set_cons_zero, r93, r94]
            clear r93 r94
            go_wp2_with fail
            exact ⟨rfl, _, rfl, HTT.out _ _ (rfl) (Only.refl _ _)⟩
          · intro x wx ox hN TT HTT
            have r95 : x 14 = (.pointer (some ⟨gd', od' + j, none⟩)) := hN.1 rfl
            clear hN
            unfold StepTo
            simp only [putAll, Act.put, List.setIfInBounds_toArray, List.set_cons_succ, List.set_cons_zero, r95]
            clear r95
            obtain ⟨m1, m2, m3, m4⟩ := HX.out wx ox
            go_wp2_with fail
            exact ⟨rfl, _, rfl, HTT.out _ _ (rfl) (Only.refl _ _)⟩
          intro xz wxz oxz hN
          have r81 : xz 0 = (.slice (some ⟨g, o, none⟩) L c) := hN.1
          have r82 : xz 1 = (.int .i64 (i : Int)) := hN.2.1
          have r83 : xz 2 = (.pointer (some ⟨g, o + i * 4, none⟩)) := hN.2.2.1
          have r84 : xz 3 = (.pointer (some ⟨g, o + i * 4 + 3, none⟩)) := hN.2.2.2.1
          have r85 : xz 4 = (.slice (some ⟨gd, od, none⟩) LN cn) := hN.2.2.2.2.1
          have r86 : xz 5 = (.int .i64 (j : Int)) := hN.2.2.2.2.2.1
          have r87 : xz 6 = (.pointer (some ⟨gd, od + j, none⟩)) := hN.2.2.2.2.2.2.1
          have r88 : xz 7 = (.string ⟨s.toArray⟩) := hN.2.2.2.2.2.2.2.1
          have r89 : xz 8 = (.slice (some ⟨g', o', none⟩) L c') := hN.2.2.2.2.2.2.2.2.1
          have r90 : xz 9 = (.int .i64 (i : Int)) := hN.2.2.2.2.2.2.2.2.2.1
          have r91 : xz 10 = (.pointer (some ⟨g', o' + i * 4, none⟩)) := hN.2.2.2.2.2.2.2.2.2.2.1
          have r92 : xz 11 = (.pointer (some ⟨g', o' + i * 4 + 3, none⟩)) := hN.2.2.2.2.2.2.2.2.2.2.2.1
          have r93 : xz 12 = (.slice (some ⟨gd', od', none⟩) LN cn') := hN.2.2.2.2.2.2.2.2.2.2.2.2.1
          have r94 : xz 13 = (.int .i64 (j : Int)) := hN.2.2.2.2.2.2.2.2.2.2.2.2.2.1
          have r95 : xz 14 = (.pointer (some ⟨gd', od' + j, none⟩)) := hN.2.2.2.2.2.2.2.2.2.2.2.2.2.2.1
          have r96 : xz 15 = (.string ⟨s.toArray⟩) := hN.2.2.2.2.2.2.2.2.2.2.2.2.2.2.2.1
          clear hN
          simp only [putAll, Act.put, List.setIfInBounds_toArray, List.set_cons_succ, List.set_cons_zero, r81, r82, r83, r84, r85, r86, r87, r88, r89, r90, r91, r92, r93, r94, r95, r96]
          clear r81 r82 r83 r84 r85 r86 r87 r88 r89 r90 r91 r92 r93 r94 r95 r96
          have OZ := Lib.hid (HP.out.trans ((Only.refl _ wr).drew.trans oxz)); clear oxz
          go_wp2_with fail
          go_roundw
          case rel => exact ⟨j + 1, by simp [go_sem], by omega, OZ⟩
          case measure => simp [intOf]; omega
        · have hke : j = LN := by omega
          subst hke
          have t4 : decide ((j : Int) < (j : Int)) = false := by simp
          go_wp2_with fail
          clear e3 f3
          go_roundw
          case rel => exact ⟨i + 1, by simp, by omega, HP⟩
          case measure => simp [intOf]; omega
    · have hke : i = L := by omega
      subst hke
      have t3 : decide ((i : Int) < (i : Int)) = false := by simp
      go_wp2_with fail
      go_ret
      exact ⟨rfl, HO.out⟩
end Go.Proofs.YtgephneppgcnlaaDoor
