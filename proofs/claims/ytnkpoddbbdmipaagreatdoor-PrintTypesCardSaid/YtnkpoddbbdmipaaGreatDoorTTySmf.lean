/- . -/
import Derived.Test.YtnkpoddbbdmipaaGreatDoorTTySme
namespace Go.Proofs.YtnkpoddbbdmipaaGreatDoor
open Go Go.RowKit
open Go.Lib (hid)
set_option linter.unusedVariables false
set_option linter.unusedSimpArgs false
set_option maxRecDepth 100000 in
set_option maxHeartbeats 16000000 in
theorem sameTDs (ts : List TD) (G G' : Nat → Prop) (w : World) (v u : Value) (h : CellAt w G (.row 4 (ts.map tdC)) v) (h' : CellAt w G' (.row 4 (ts.map tdC)) u) :
  Calls Tryz.prog 32 #[v, u] w (fun e w' => e = .returned (.bool true) ∧ Only (fun _ => False) w w') := by
 obtain ⟨a, c, rfl, k1, k2, k3⟩ := rows_at h; obtain ⟨a', c', rfl, k1', k2', k3'⟩ := rows_at h'; obtain ⟨L, hL⟩ := eX (ts.length); rw [hL] at k1 k1' ⊢; have HL := hid hL; have HK := hid k3; have HK' := hid k3'; clear hL k3 k3' h h'
 go_enter Tryz.func32, Tryz.ntmps32
 go_wp2_with fail
 go_loopw [5] (fun v wr => ∃ i : Nat, v = .int .i64 (i : Int) ∧ i ≤ L ∧ Hid (Only (fun _ => False) w wr)) (fun v _ => L - (intOf v).toNat)
 case atStart => exact ⟨0, by simp, by omega, hid oR⟩
 case round =>
  obtain ⟨i, rfl, hi, HO⟩ := hrel
  by_cases hlt : i < L
  ·have t3 : decide ((i : Int) < (L : Int)) = true := by simpa using hlt
   have hi0 : (0 : Int) ≤ (i : Int) := by omega
   have hi1 : (i : Int) < (L : Int) := by omega
   have hil : i < ts.length := by rw [HL.out]; exact hlt
   obtain ⟨g, o, xs, rfl, -, q1, q2⟩ := HK.out i hil; obtain ⟨g', o', xs', rfl, -, q1', q2'⟩ := HK'.out i hil; obtain ⟨fv, nv, rfl, hf, hn⟩ := td_cells q2; obtain ⟨fv', nv', rfl, hf', hn'⟩ := td_cells q2'; have hrec := fun (wx : World) (ox : Only (fun _ => False) w wx) => sameFDs_all _ G G' wx _ _ (CellAt.only ox (fun _ _ h => h) _ _ hf) (CellAt.only ox (fun _ _ h => h) _ _ hf')
   obtain ⟨af, cf, rfl, -, -, -⟩ := rows_at hf; obtain ⟨af', cf', rfl, -, -, -⟩ := rows_at hf'; obtain ⟨an, cn, rfl, n1, n2, n3⟩ := rows_at hn; obtain ⟨an', cn', rfl, n1', n2', n3'⟩ := rows_at hn'; obtain ⟨e0, e1, e2, e3⟩ := cells4_in q1; obtain ⟨f0, f1, f2, f3⟩ := cells4_in q1'
   generalize ts[i].kind = kk at *
   generalize ts[i].name = nm at *
   generalize ts[i].fields.length = LF at *
   generalize ts[i].names = ns at *
   obtain ⟨LN, hLN⟩ := eX (ns.length); rw [hLN] at n1 n1' e3 f3; have oww : Only (fun _ => False) w wr := HO.out; have HX := hid (fun (wx : World) (ox : Only (fun _ => False) wr.drew wx) => have ow := oww.trans ((Only.refl _ wr).drew.trans ox); And.intro (keepc ow e0) (And.intro (keepc ow e1) (And.intro (keepc ow e2) (And.intro (keepc ow e3) (And.intro (keepc ow f0) (And.intro (keepc ow f1) (And.intro (keepc ow f2) (keepc ow f3)))))))); have HREC := hid (fun (wx : World) (ox : Only (fun _ => False) wr.drew wx) => hrec wx (oww.trans ((Only.refl _ wr).drew.trans ox))); have HN := hid n3; have HN' := hid n3'; have HLN := hid hLN; have HE := hid (And.intro e3 f3); clear hrec q1 q1' q2 q2' hf hf' hn hn' e0 e1 e2 e3 f0 f1 f2 f3 oww n3 n3' hLN
   go_upto_region 6 with (fail)
   refine wp_region_steps 52 (by kernel_rfl) rfl (by kernel_rfl) [some 18, some 19, some 20, some 21, some 22, some 23, some 24, some 25, some 26, some 27, some 28, some 29, some 30, some 31, some 32, some 33, some 34, some 35, some 36, some 37, some 38, some 39, some 40, some 41, some 42, some 43, some 44, some 45, some 46, some 47, some 48, some 49, some 50, some 51, some 52, some 53, some 54, some 55, some 56, some 57, some 58, some 59, some 60, some 61, some 62, some 63, some 64, some 65, some 66, some 67, some 68, some 69] rfl rfl (fun _ => False) [(fun v _ => v = (.slice (some ⟨g, o, none⟩) L c)), (fun v _ => v = (.int .i64 (i : Int))), (fun v _ => v = (.pointer (some ⟨g, o + i * 4, none⟩))), (fun v _ => v = (.pointer (some ⟨g, o + i * 4, none⟩))), (fun v _ => v = (.int .u8 (kk : Int))), (fun v _ => v = (.slice (some ⟨g', o', none⟩) L c')), (fun v _ => v = (.int .i64 (i : Int))), (fun v _ => v = (.pointer (some ⟨g', o' + i * 4, none⟩))), (fun v _ => v = (.pointer (some ⟨g', o' + i * 4, none⟩))), (fun v _ => v = (.int .u8 (kk : Int))), (fun v _ => v = (.bool false)), (fun v _ => v = (.bool false)), (fun v _ => v = (.slice (some ⟨g, o, none⟩) L c)), (fun v _ => v = (.int .i64 (i : Int))), (fun v _ => v = (.pointer (some ⟨g, o + i * 4, none⟩))), (fun v _ => v = (.pointer (some ⟨g, o + i * 4 + 1, none⟩))), (fun v _ => v = (.string ⟨nm.toArray⟩)), (fun v _ => v = (.slice (some ⟨g', o', none⟩) L c')), (fun v _ => v = (.int .i64 (i : Int))), (fun v _ => v = (.pointer (some ⟨g', o' + i * 4, none⟩))), (fun v _ => v = (.pointer (some ⟨g', o' + i * 4 + 1, none⟩))), (fun v _ => v = (.string ⟨nm.toArray⟩)), (fun v _ => v = (.bool false)), (fun v _ => v = (.bool false)), (fun v _ => v = (.bool false)), (fun v _ => v = (.slice (some ⟨g, o, none⟩) L c)), (fun v _ => v = (.int .i64 (i : Int))), (fun v _ => v = (.pointer (some ⟨g, o + i * 4, none⟩))), (fun v _ => v = (.pointer (some ⟨g, o + i * 4 + 3, none⟩))), (fun v _ => v = (.slice an LN cn)), (fun v _ => v = (.int .i64 (LN : Int))), (fun v _ => v = (.slice (some ⟨g', o', none⟩) L c')), (fun v _ => v = (.int .i64 (i : Int))), (fun v _ => v = (.pointer (some ⟨g', o' + i * 4, none⟩))), (fun v _ => v = (.pointer (some ⟨g', o' + i * 4 + 3, none⟩))), (fun v _ => v = (.slice an' LN cn')), (fun v _ => v = (.int .i64 (LN : Int))), (fun v _ => v = (.bool false)), (fun v _ => v = (.bool false)), (fun v _ => v = (.bool false)), (fun v _ => v = (.slice (some ⟨g, o, none⟩) L c)), (fun v _ => v = (.int .i64 (i : Int))), (fun v _ => v = (.pointer (some ⟨g, o + i * 4, none⟩))), (fun v _ => v = (.pointer (some ⟨g, o + i * 4 + 2, none⟩))), (fun v _ => v = (.slice af LF cf)), (fun v _ => v = (.slice (some ⟨g', o', none⟩) L c')), (fun v _ => v = (.int .i64 (i : Int))), (fun v _ => v = (.pointer (some ⟨g', o' + i * 4, none⟩))), (fun v _ => v = (.pointer (some ⟨g', o' + i * 4 + 2, none⟩))), (fun v _ => v = (.slice af' LF cf')), (fun v _ => v = (.bool true)), (fun v _ => v = (.bool false))] rfl ⟨?_, ?_, ?_, ?_, ?_, ?_, ?_, ?_, ?_, ?_, ?_, ?_, ?_, ?_, ?_, ?_, ?_, ?_, ?_, ?_, ?_, ?_, ?_, ?_, ?_, ?_, ?_, ?_, ?_, ?_, ?_, ?_, ?_, ?_, ?_, ?_, ?_, ?_, ?_, ?_, ?_, ?_, ?_, ?_, ?_, ?_, ?_, ?_, ?_, ?_, ?_, ?_, trivial⟩ _ rfl ⟨?_, ?_, ?_, ?_, ?_, ?_, ?_, ?_, ?_, ?_, ?_, ?_, ?_, ?_, ?_, ?_, ?_, ?_, ?_, ?_, ?_, ?_, ?_, ?_, ?_, ?_, ?_, ?_, ?_, ?_, ?_, ?_, ?_, ?_, ?_, ?_, ?_, ?_, ?_, ?_, ?_, ?_, ?_, ?_, ?_, ?_, ?_, ?_, ?_, ?_, ?_, ?_, trivial⟩ ?_
   iterate 52 exact Stable.is _ _
   ·intro x wx ox hN TT HTT; unfold StepTo; simp only [putAll, Act.put, zA, zB, zC]; clear hN
    go_wp2_with fail
    exact ⟨rfl, _, rfl, HTT.out _ _ rfl oR⟩
   ·intro x wx ox hN TT HTT; unfold StepTo; simp only [putAll, Act.put, zA, zB, zC]; clear hN
    go_wp2_with fail
    exact ⟨rfl, _, rfl, HTT.out _ _ rfl oR⟩
   ·intro x wx ox hN TT HTT; unfold StepTo; simp only [putAll, Act.put, zA, zB, zC, eI (hN.1 rfl), eI (hN.2.1 rfl)]; clear hN
    go_wp2_with fail
    exact ⟨rfl, _, rfl, HTT.out _ _ rfl oR⟩
   ·intro x wx ox hN TT HTT; unfold StepTo; simp only [putAll, Act.put, zA, zB, zC, eI (hN.1 rfl)]; clear hN
    go_wp2_with fail
    exact ⟨rfl, _, rfl, HTT.out _ _ rfl oR⟩
   ·intro x wx ox hN TT HTT; unfold StepTo; simp only [putAll, Act.put, zA, zB, zC, eI (hN.1 rfl)]; clear hN; obtain ⟨m1, m2, m3, m4, m5, m6, m7, m8⟩ := HX.out wx ox
    go_wp2_with fail
    exact ⟨rfl, _, rfl, HTT.out _ _ rfl oR⟩
   ·intro x wx ox hN TT HTT; unfold StepTo; simp only [putAll, Act.put, zA, zB, zC]; clear hN
    go_wp2_with fail
    exact ⟨rfl, _, rfl, HTT.out _ _ rfl oR⟩
   ·intro x wx ox hN TT HTT; unfold StepTo; simp only [putAll, Act.put, zA, zB, zC]; clear hN
    go_wp2_with fail
    exact ⟨rfl, _, rfl, HTT.out _ _ rfl oR⟩
   ·intro x wx ox hN TT HTT; unfold StepTo; simp only [putAll, Act.put, zA, zB, zC, eI (hN.1 rfl), eI (hN.2.1 rfl)]; clear hN
    go_wp2_with fail
    exact ⟨rfl, _, rfl, HTT.out _ _ rfl oR⟩
   ·intro x wx ox hN TT HTT; unfold StepTo; simp only [putAll, Act.put, zA, zB, zC, eI (hN.1 rfl)]; clear hN
    go_wp2_with fail
    exact ⟨rfl, _, rfl, HTT.out _ _ rfl oR⟩
   ·intro x wx ox hN TT HTT; unfold StepTo; simp only [putAll, Act.put, zA, zB, zC, eI (hN.1 rfl)]; clear hN; obtain ⟨m1, m2, m3, m4, m5, m6, m7, m8⟩ := HX.out wx ox
    go_wp2_with fail
    exact ⟨rfl, _, rfl, HTT.out _ _ rfl oR⟩
   ·intro x wx ox hN TT HTT; unfold StepTo; simp only [putAll, Act.put, zA, zB, zC, eI (hN.1 rfl), eI (hN.2.1 rfl)]; clear hN
    go_wp2_with fail
    exact ⟨rfl, _, rfl, HTT.out _ _ rfl oR⟩
   ·intro x wx ox hN TT HTT; unfold StepTo; simp only [putAll, Act.put, zA, zB, zC, eI (hN.1 rfl)]; clear hN
    go_wp2_with fail
    exact ⟨rfl, _, rfl, HTT.out _ _ rfl oR⟩
   ·intro x wx ox hN TT HTT; unfold StepTo; simp only [putAll, Act.put, zA, zB, zC, eI (hN.1 rfl)]; clear hN
    go_wp2_with fail
    exact ⟨rfl, _, rfl, HTT.out _ _ rfl oR⟩
   ·intro x wx ox hN TT HTT; unfold StepTo; simp only [putAll, Act.put, zA, zB, zC, eI (hN.1 rfl)]; clear hN
    go_wp2_with fail
    exact ⟨rfl, _, rfl, HTT.out _ _ rfl oR⟩
   ·intro x wx ox hN TT HTT; unfold StepTo; simp only [putAll, Act.put, zA, zB, zC, eI (hN.1 rfl), eI (hN.2.1 rfl), eI (hN.2.2.1 rfl)]; clear hN
    go_wp2_with fail
    exact ⟨rfl, _, rfl, HTT.out _ _ rfl oR⟩
   ·intro x wx ox hN TT HTT; unfold StepTo; simp only [putAll, Act.put, zA, zB, zC, eI (hN.1 rfl), eI (hN.2.1 rfl)]; clear hN
    go_wp2_with fail
    exact ⟨rfl, _, rfl, HTT.out _ _ rfl oR⟩
   ·intro x wx ox hN TT HTT; unfold StepTo; simp only [putAll, Act.put, zA, zB, zC, eI (hN.1 rfl), eI (hN.2.1 rfl)]; clear hN; obtain ⟨m1, m2, m3, m4, m5, m6, m7, m8⟩ := HX.out wx ox
    go_wp2_with fail
    exact ⟨rfl, _, rfl, HTT.out _ _ rfl oR⟩
   ·intro x wx ox hN TT HTT; unfold StepTo; simp only [putAll, Act.put, zA, zB, zC, eI (hN.1 rfl)]; clear hN
    go_wp2_with fail
    exact ⟨rfl, _, rfl, HTT.out _ _ rfl oR⟩
   ·intro x wx ox hN TT HTT; unfold StepTo; simp only [putAll, Act.put, zA, zB, zC, eI (hN.1 rfl)]; clear hN
    go_wp2_with fail
    exact ⟨rfl, _, rfl, HTT.out _ _ rfl oR⟩
   ·intro x wx ox hN TT HTT; unfold StepTo; simp only [putAll, Act.put, zA, zB, zC, eI (hN.1 rfl), eI (hN.2.1 rfl), eI (hN.2.2.1 rfl)]; clear hN
    go_wp2_with fail
    exact ⟨rfl, _, rfl, HTT.out _ _ rfl oR⟩
   ·intro x wx ox hN TT HTT; unfold StepTo; simp only [putAll, Act.put, zA, zB, zC, eI (hN.1 rfl), eI (hN.2.1 rfl)]; clear hN
    go_wp2_with fail
    exact ⟨rfl, _, rfl, HTT.out _ _ rfl oR⟩
   ·intro x wx ox hN TT HTT; unfold StepTo; simp only [putAll, Act.put, zA, zB, zC, eI (hN.1 rfl), eI (hN.2.1 rfl)]; clear hN; obtain ⟨m1, m2, m3, m4, m5, m6, m7, m8⟩ := HX.out wx ox
    go_wp2_with fail
    exact ⟨rfl, _, rfl, HTT.out _ _ rfl oR⟩
   ·intro x wx ox hN TT HTT; unfold StepTo; simp only [putAll, Act.put, zA, zB, zC, eI (hN.1 rfl), eI (hN.2.1 rfl), eI (hN.2.2.1 rfl)]; clear hN
    go_wp2_with fail
    exact ⟨rfl, _, rfl, HTT.out _ _ rfl oR⟩
   ·intro x wx ox hN TT HTT; unfold StepTo; simp only [putAll, Act.put, zA, zB, zC, eI (hN.1 rfl), eI (hN.2.1 rfl)]; clear hN
    go_wp2_with fail
    exact ⟨rfl, _, rfl, HTT.out _ _ rfl oR⟩
   ·intro x wx ox hN TT HTT; unfold StepTo; simp only [putAll, Act.put, zA, zB, zC, eI (hN.1 rfl), eI (hN.2.1 rfl)]; clear hN
    go_wp2_with fail
    exact ⟨rfl, _, rfl, HTT.out _ _ rfl oR⟩
   ·intro x wx ox hN TT HTT; unfold StepTo; simp only [putAll, Act.put, zA, zB, zC, eI (hN.1 rfl)]; clear hN
    go_wp2_with fail
    exact ⟨rfl, _, rfl, HTT.out _ _ rfl oR⟩
   ·intro x wx ox hN TT HTT; unfold StepTo; simp only [putAll, Act.put, zA, zB, zC, eI (hN.1 rfl)]; clear hN
    go_wp2_with fail
    exact ⟨rfl, _, rfl, HTT.out _ _ rfl oR⟩
   ·intro x wx ox hN TT HTT; unfold StepTo; simp only [putAll, Act.put, zA, zB, zC, eI (hN.1 rfl), eI (hN.2.1 rfl), eI (hN.2.2.1 rfl)]; clear hN
    go_wp2_with fail
    exact ⟨rfl, _, rfl, HTT.out _ _ rfl oR⟩
   ·intro x wx ox hN TT HTT; unfold StepTo; simp only [putAll, Act.put, zA, zB, zC, eI (hN.1 rfl), eI (hN.2.1 rfl)]; clear hN
    go_wp2_with fail
    exact ⟨rfl, _, rfl, HTT.out _ _ rfl oR⟩
   ·intro x wx ox hN TT HTT; unfold StepTo; simp only [putAll, Act.put, zA, zB, zC, eI (hN.1 rfl), eI (hN.2.1 rfl)]; clear hN; obtain ⟨m1, m2, m3, m4, m5, m6, m7, m8⟩ := HX.out wx ox
    go_wp2_with fail
    exact ⟨rfl, _, rfl, HTT.out _ _ rfl oR⟩
   ·intro x wx ox hN TT HTT; unfold StepTo; simp only [putAll, Act.put, zA, zB, zC, eI (hN.1 rfl), eI (hN.2.1 rfl)]; clear hN
    go_wp2_with fail
    exact ⟨rfl, _, rfl, HTT.out _ _ rfl oR⟩
   ·intro x wx ox hN TT HTT; unfold StepTo; simp only [putAll, Act.put, zA, zB, zC, eI (hN.1 rfl)]; clear hN
    go_wp2_with fail
    exact ⟨rfl, _, rfl, HTT.out _ _ rfl oR⟩
   ·intro x wx ox hN TT HTT; unfold StepTo; simp only [putAll, Act.put, zA, zB, zC, eI (hN.1 rfl)]; clear hN
    go_wp2_with fail
    exact ⟨rfl, _, rfl, HTT.out _ _ rfl oR⟩
   ·intro x wx ox hN TT HTT; unfold StepTo; simp only [putAll, Act.put, zA, zB, zC, eI (hN.1 rfl), eI (hN.2.1 rfl), eI (hN.2.2.1 rfl)]; clear hN
    go_wp2_with fail
    exact ⟨rfl, _, rfl, HTT.out _ _ rfl oR⟩
   ·intro x wx ox hN TT HTT; unfold StepTo; simp only [putAll, Act.put, zA, zB, zC, eI (hN.1 rfl), eI (hN.2.1 rfl)]; clear hN
    go_wp2_with fail
    exact ⟨rfl, _, rfl, HTT.out _ _ rfl oR⟩
   ·intro x wx ox hN TT HTT; unfold StepTo; simp only [putAll, Act.put, zA, zB, zC, eI (hN.1 rfl), eI (hN.2.1 rfl)]; clear hN; obtain ⟨m1, m2, m3, m4, m5, m6, m7, m8⟩ := HX.out wx ox
    go_wp2_with fail
    exact ⟨rfl, _, rfl, HTT.out _ _ rfl oR⟩
   ·intro x wx ox hN TT HTT; unfold StepTo; simp only [putAll, Act.put, zA, zB, zC, eI (hN.1 rfl), eI (hN.2.1 rfl)]; clear hN
    go_wp2_with fail
    exact ⟨rfl, _, rfl, HTT.out _ _ rfl oR⟩
   ·intro x wx ox hN TT HTT; unfold StepTo; simp only [putAll, Act.put, zA, zB, zC, eI (hN.1 rfl), eI (hN.2.1 rfl), eI (hN.2.2.1 rfl)]; clear hN
    go_wp2_with fail
    exact ⟨rfl, _, rfl, HTT.out _ _ rfl oR⟩
   ·intro x wx ox hN TT HTT; unfold StepTo; simp only [putAll, Act.put, zA, zB, zC, eI (hN.1 rfl), eI (hN.2.1 rfl)]; clear hN
    go_wp2_with fail
    exact ⟨rfl, _, rfl, HTT.out _ _ rfl oR⟩
   ·intro x wx ox hN TT HTT; unfold StepTo; simp only [putAll, Act.put, zA, zB, zC, eI (hN.1 rfl), eI (hN.2.1 rfl)]; clear hN
    go_wp2_with fail
    exact ⟨rfl, _, rfl, HTT.out _ _ rfl oR⟩
   ·intro x wx ox hN TT HTT; unfold StepTo; simp only [putAll, Act.put, zA, zB, zC, eI (hN.1 rfl)]; clear hN
    go_wp2_with fail
    exact ⟨rfl, _, rfl, HTT.out _ _ rfl oR⟩
   ·intro x wx ox hN TT HTT; unfold StepTo; simp only [putAll, Act.put, zA, zB, zC, eI (hN.1 rfl)]; clear hN
    go_wp2_with fail
    exact ⟨rfl, _, rfl, HTT.out _ _ rfl oR⟩
   ·intro x wx ox hN TT HTT; unfold StepTo; simp only [putAll, Act.put, zA, zB, zC, eI (hN.1 rfl), eI (hN.2.1 rfl), eI (hN.2.2.1 rfl)]; clear hN
    go_wp2_with fail
    exact ⟨rfl, _, rfl, HTT.out _ _ rfl oR⟩
   ·intro x wx ox hN TT HTT; unfold StepTo; simp only [putAll, Act.put, zA, zB, zC, eI (hN.1 rfl), eI (hN.2.1 rfl)]; clear hN
    go_wp2_with fail
    exact ⟨rfl, _, rfl, HTT.out _ _ rfl oR⟩
   ·intro x wx ox hN TT HTT; unfold StepTo; simp only [putAll, Act.put, zA, zB, zC, eI (hN.1 rfl), eI (hN.2.1 rfl)]; clear hN; obtain ⟨m1, m2, m3, m4, m5, m6, m7, m8⟩ := HX.out wx ox
    go_wp2_with fail
    exact ⟨rfl, _, rfl, HTT.out _ _ rfl oR⟩
   ·intro x wx ox hN TT HTT; unfold StepTo; simp only [putAll, Act.put, zA, zB, zC, eI (hN.1 rfl)]; clear hN
    go_wp2_with fail
    exact ⟨rfl, _, rfl, HTT.out _ _ rfl oR⟩
   ·intro x wx ox hN TT HTT; unfold StepTo; simp only [putAll, Act.put, zA, zB, zC, eI (hN.1 rfl)]; clear hN
    go_wp2_with fail
    exact ⟨rfl, _, rfl, HTT.out _ _ rfl oR⟩
   ·intro x wx ox hN TT HTT; unfold StepTo; simp only [putAll, Act.put, zA, zB, zC, eI (hN.1 rfl), eI (hN.2.1 rfl), eI (hN.2.2.1 rfl)]; clear hN
    go_wp2_with fail
    exact ⟨rfl, _, rfl, HTT.out _ _ rfl oR⟩
   ·intro x wx ox hN TT HTT; unfold StepTo; simp only [putAll, Act.put, zA, zB, zC, eI (hN.1 rfl), eI (hN.2.1 rfl)]; clear hN
    go_wp2_with fail
    exact ⟨rfl, _, rfl, HTT.out _ _ rfl oR⟩
   ·intro x wx ox hN TT HTT; unfold StepTo; simp only [putAll, Act.put, zA, zB, zC, eI (hN.1 rfl), eI (hN.2.1 rfl)]; clear hN; obtain ⟨m1, m2, m3, m4, m5, m6, m7, m8⟩ := HX.out wx ox
    go_wp2_with fail
    exact ⟨rfl, _, rfl, HTT.out _ _ rfl oR⟩
   ·intro x wx ox hN TT HTT; unfold StepTo; simp only [putAll, Act.put, zA, zB, zC, eI (hN.1 rfl), eI (hN.2.1 rfl), eI (hN.2.2.1 rfl)]; clear hN; have ht := HREC.out wx ox; have HT := hid ht; clear ht
    go_wp2_with fail
    refine HT.out.mono ?_
    rintro e w6 ⟨rfl, o6⟩; have O6 := hid o6; clear o6
    go_wp2_with fail
    exact ⟨rfl, _, rfl, HTT.out _ _ rfl (O6.out)⟩
   ·intro x wx ox hN TT HTT; unfold StepTo; simp only [putAll, Act.put, zA, zB, zC, eI (hN.1 rfl), eI (hN.2.1 rfl)]; clear hN
    go_wp2_with fail
    exact ⟨rfl, _, rfl, HTT.out _ _ rfl oR⟩
   intro xz wxz oxz hN
   simp only [putAll, Act.put, zA, zB, zC, eI hN.1, eI hN.2.1, eI hN.2.2.1, eI hN.2.2.2.1, eI hN.2.2.2.2.1, eI hN.2.2.2.2.2.1, eI hN.2.2.2.2.2.2.1, eI hN.2.2.2.2.2.2.2.1, eI hN.2.2.2.2.2.2.2.2.1, eI hN.2.2.2.2.2.2.2.2.2.1, eI hN.2.2.2.2.2.2.2.2.2.2.1, eI hN.2.2.2.2.2.2.2.2.2.2.2.1, eI hN.2.2.2.2.2.2.2.2.2.2.2.2.1, eI hN.2.2.2.2.2.2.2.2.2.2.2.2.2.1, eI hN.2.2.2.2.2.2.2.2.2.2.2.2.2.2.1, eI hN.2.2.2.2.2.2.2.2.2.2.2.2.2.2.2.1, eI hN.2.2.2.2.2.2.2.2.2.2.2.2.2.2.2.2.1, eI hN.2.2.2.2.2.2.2.2.2.2.2.2.2.2.2.2.2.1, eI hN.2.2.2.2.2.2.2.2.2.2.2.2.2.2.2.2.2.2.1, eI hN.2.2.2.2.2.2.2.2.2.2.2.2.2.2.2.2.2.2.2.1, eI hN.2.2.2.2.2.2.2.2.2.2.2.2.2.2.2.2.2.2.2.2.1, eI hN.2.2.2.2.2.2.2.2.2.2.2.2.2.2.2.2.2.2.2.2.2.1, eI hN.2.2.2.2.2.2.2.2.2.2.2.2.2.2.2.2.2.2.2.2.2.2.1, eI hN.2.2.2.2.2.2.2.2.2.2.2.2.2.2.2.2.2.2.2.2.2.2.2.1, eI hN.2.2.2.2.2.2.2.2.2.2.2.2.2.2.2.2.2.2.2.2.2.2.2.2.1, eI hN.2.2.2.2.2.2.2.2.2.2.2.2.2.2.2.2.2.2.2.2.2.2.2.2.2.1, eI hN.2.2.2.2.2.2.2.2.2.2.2.2.2.2.2.2.2.2.2.2.2.2.2.2.2.2.1, eI hN.2.2.2.2.2.2.2.2.2.2.2.2.2.2.2.2.2.2.2.2.2.2.2.2.2.2.2.1, eI hN.2.2.2.2.2.2.2.2.2.2.2.2.2.2.2.2.2.2.2.2.2.2.2.2.2.2.2.2.1, eI hN.2.2.2.2.2.2.2.2.2.2.2.2.2.2.2.2.2.2.2.2.2.2.2.2.2.2.2.2.2.1, eI hN.2.2.2.2.2.2.2.2.2.2.2.2.2.2.2.2.2.2.2.2.2.2.2.2.2.2.2.2.2.2.1, eI hN.2.2.2.2.2.2.2.2.2.2.2.2.2.2.2.2.2.2.2.2.2.2.2.2.2.2.2.2.2.2.2.1, eI hN.2.2.2.2.2.2.2.2.2.2.2.2.2.2.2.2.2.2.2.2.2.2.2.2.2.2.2.2.2.2.2.2.1, eI hN.2.2.2.2.2.2.2.2.2.2.2.2.2.2.2.2.2.2.2.2.2.2.2.2.2.2.2.2.2.2.2.2.2.1, eI hN.2.2.2.2.2.2.2.2.2.2.2.2.2.2.2.2.2.2.2.2.2.2.2.2.2.2.2.2.2.2.2.2.2.2.1, eI hN.2.2.2.2.2.2.2.2.2.2.2.2.2.2.2.2.2.2.2.2.2.2.2.2.2.2.2.2.2.2.2.2.2.2.2.1, eI hN.2.2.2.2.2.2.2.2.2.2.2.2.2.2.2.2.2.2.2.2.2.2.2.2.2.2.2.2.2.2.2.2.2.2.2.2.1, eI hN.2.2.2.2.2.2.2.2.2.2.2.2.2.2.2.2.2.2.2.2.2.2.2.2.2.2.2.2.2.2.2.2.2.2.2.2.2.1, eI hN.2.2.2.2.2.2.2.2.2.2.2.2.2.2.2.2.2.2.2.2.2.2.2.2.2.2.2.2.2.2.2.2.2.2.2.2.2.2.1, eI hN.2.2.2.2.2.2.2.2.2.2.2.2.2.2.2.2.2.2.2.2.2.2.2.2.2.2.2.2.2.2.2.2.2.2.2.2.2.2.2.1, eI hN.2.2.2.2.2.2.2.2.2.2.2.2.2.2.2.2.2.2.2.2.2.2.2.2.2.2.2.2.2.2.2.2.2.2.2.2.2.2.2.2.1, eI hN.2.2.2.2.2.2.2.2.2.2.2.2.2.2.2.2.2.2.2.2.2.2.2.2.2.2.2.2.2.2.2.2.2.2.2.2.2.2.2.2.2.1, eI hN.2.2.2.2.2.2.2.2.2.2.2.2.2.2.2.2.2.2.2.2.2.2.2.2.2.2.2.2.2.2.2.2.2.2.2.2.2.2.2.2.2.2.1, eI hN.2.2.2.2.2.2.2.2.2.2.2.2.2.2.2.2.2.2.2.2.2.2.2.2.2.2.2.2.2.2.2.2.2.2.2.2.2.2.2.2.2.2.2.1, eI hN.2.2.2.2.2.2.2.2.2.2.2.2.2.2.2.2.2.2.2.2.2.2.2.2.2.2.2.2.2.2.2.2.2.2.2.2.2.2.2.2.2.2.2.2.1, eI hN.2.2.2.2.2.2.2.2.2.2.2.2.2.2.2.2.2.2.2.2.2.2.2.2.2.2.2.2.2.2.2.2.2.2.2.2.2.2.2.2.2.2.2.2.2.1, eI hN.2.2.2.2.2.2.2.2.2.2.2.2.2.2.2.2.2.2.2.2.2.2.2.2.2.2.2.2.2.2.2.2.2.2.2.2.2.2.2.2.2.2.2.2.2.2.1, eI hN.2.2.2.2.2.2.2.2.2.2.2.2.2.2.2.2.2.2.2.2.2.2.2.2.2.2.2.2.2.2.2.2.2.2.2.2.2.2.2.2.2.2.2.2.2.2.2.1, eI hN.2.2.2.2.2.2.2.2.2.2.2.2.2.2.2.2.2.2.2.2.2.2.2.2.2.2.2.2.2.2.2.2.2.2.2.2.2.2.2.2.2.2.2.2.2.2.2.2.1, eI hN.2.2.2.2.2.2.2.2.2.2.2.2.2.2.2.2.2.2.2.2.2.2.2.2.2.2.2.2.2.2.2.2.2.2.2.2.2.2.2.2.2.2.2.2.2.2.2.2.2.1, eI hN.2.2.2.2.2.2.2.2.2.2.2.2.2.2.2.2.2.2.2.2.2.2.2.2.2.2.2.2.2.2.2.2.2.2.2.2.2.2.2.2.2.2.2.2.2.2.2.2.2.2.1, eI hN.2.2.2.2.2.2.2.2.2.2.2.2.2.2.2.2.2.2.2.2.2.2.2.2.2.2.2.2.2.2.2.2.2.2.2.2.2.2.2.2.2.2.2.2.2.2.2.2.2.2.2.1]
   clear hN; have OZ := hid (HO.out.trans ((Only.refl _ wr).drew.trans oxz)); clear oxz
   go_wp2_with fail
   go_loopw [6] (fun v w8 => ∃ j : Nat, v = .int .i64 (j : Int) ∧ j ≤ LN ∧ Hid (Only (fun _ => False) w w8)) (fun v _ => LN - (intOf v).toNat)
   case atStart => exact ⟨0, by simp, by omega, OZ⟩
   case round =>
    clear OZ; obtain ⟨j, rfl, hj, HP⟩ := hrel; obtain ⟨e3, f3⟩ := HE.out; have e3 := keepc HP.out e3; have f3 := keepc HP.out f3
    by_cases hltj : j < LN
    ·have t4 : decide ((j : Int) < (LN : Int)) = true := by simpa using hltj
     have hj0 : (0 : Int) ≤ (j : Int) := by omega
     have hj1 : (j : Int) < (LN : Int) := by omega
     have hjl : j < ns.length := by rw [HLN.out]; exact hltj
     obtain ⟨gd, od, ys, rfl, -, p1, p2⟩ := HN.out j hjl; obtain ⟨gd', od', ys', rfl, -, p1', p2'⟩ := HN'.out j hjl; have := str_cell p2; subst this; have := str_cell p2'; subst this; have p1 := p1 0 _ rfl; have p1' := p1' 0 _ rfl; rw [Nat.mul_one, Nat.add_zero] at p1 p1'
     generalize ns[j] = s at *
     have HX := hid (fun (wx : World) (ox : Only (fun _ => False) wr.drew wx) => have o := (Only.refl _ wr).drew.trans ox; have ow := HP.out.trans o; And.intro (keepc o e3) (And.intro (keepc o f3) (And.intro (keepc ow p1) (keepc ow p1')))); clear p1 p1' p2 p2'
     go_upto_region 11 with (fail)
     clear e3 f3; refine wp_region_steps 16 (by kernel_rfl) rfl (by kernel_rfl) [some 81, some 82, some 83, some 84, some 85, some 86, some 87, some 88, some 89, some 90, some 91, some 92, some 93, some 94, some 95, some 96] rfl rfl (fun _ => False) [(fun v _ => v = (.slice (some ⟨g, o, none⟩) L c)), (fun v _ => v = (.int .i64 (i : Int))), (fun v _ => v = (.pointer (some ⟨g, o + i * 4, none⟩))), (fun v _ => v = (.pointer (some ⟨g, o + i * 4 + 3, none⟩))), (fun v _ => v = (.slice (some ⟨gd, od, none⟩) LN cn)), (fun v _ => v = (.int .i64 (j : Int))), (fun v _ => v = (.pointer (some ⟨gd, od + j, none⟩))), (fun v _ => v = (.string ⟨s.toArray⟩)), (fun v _ => v = (.slice (some ⟨g', o', none⟩) L c')), (fun v _ => v = (.int .i64 (i : Int))), (fun v _ => v = (.pointer (some ⟨g', o' + i * 4, none⟩))), (fun v _ => v = (.pointer (some ⟨g', o' + i * 4 + 3, none⟩))), (fun v _ => v = (.slice (some ⟨gd', od', none⟩) LN cn')), (fun v _ => v = (.int .i64 (j : Int))), (fun v _ => v = (.pointer (some ⟨gd', od' + j, none⟩))), (fun v _ => v = (.string ⟨s.toArray⟩))] rfl ⟨?_, ?_, ?_, ?_, ?_, ?_, ?_, ?_, ?_, ?_, ?_, ?_, ?_, ?_, ?_, ?_, trivial⟩ _ rfl ⟨?_, ?_, ?_, ?_, ?_, ?_, ?_, ?_, ?_, ?_, ?_, ?_, ?_, ?_, ?_, ?_, trivial⟩ ?_
     iterate 16 exact Stable.is _ _
     ·intro x wx ox hN TT HTT; unfold StepTo; simp only [putAll, Act.put, zA, zB, zC]; clear hN
      go_wp2_with fail
      exact ⟨rfl, _, rfl, HTT.out _ _ rfl oR⟩
     ·intro x wx ox hN TT HTT; unfold StepTo; simp only [putAll, Act.put, zA, zB, zC]; clear hN
      go_wp2_with fail
      exact ⟨rfl, _, rfl, HTT.out _ _ rfl oR⟩
     ·intro x wx ox hN TT HTT; unfold StepTo; simp only [putAll, Act.put, zA, zB, zC, eI (hN.1 rfl), eI (hN.2.1 rfl)]; clear hN
      go_wp2_with fail
      exact ⟨rfl, _, rfl, HTT.out _ _ rfl oR⟩
     ·intro x wx ox hN TT HTT; unfold StepTo; simp only [putAll, Act.put, zA, zB, zC, eI (hN.1 rfl)]; clear hN
      go_wp2_with fail
      exact ⟨rfl, _, rfl, HTT.out _ _ rfl oR⟩
     ·intro x wx ox hN TT HTT; unfold StepTo; simp only [putAll, Act.put, zA, zB, zC, eI (hN.1 rfl)]; clear hN; obtain ⟨m1, m2, m3, m4⟩ := HX.out wx ox
      go_wp2_with fail
      exact ⟨rfl, _, rfl, HTT.out _ _ rfl oR⟩
     ·intro x wx ox hN TT HTT; unfold StepTo; simp only [putAll, Act.put, zA, zB, zC]; clear hN
      go_wp2_with fail
      exact ⟨rfl, _, rfl, HTT.out _ _ rfl oR⟩
     ·intro x wx ox hN TT HTT; unfold StepTo; simp only [putAll, Act.put, zA, zB, zC, eI (hN.1 rfl), eI (hN.2.1 rfl)]; clear hN
      go_wp2_with fail
      exact ⟨rfl, _, rfl, HTT.out _ _ rfl oR⟩
     ·intro x wx ox hN TT HTT; unfold StepTo; simp only [putAll, Act.put, zA, zB, zC, eI (hN.1 rfl)]; clear hN; obtain ⟨m1, m2, m3, m4⟩ := HX.out wx ox
      go_wp2_with fail
      exact ⟨rfl, _, rfl, HTT.out _ _ rfl oR⟩
     ·intro x wx ox hN TT HTT; unfold StepTo; simp only [putAll, Act.put, zA, zB, zC]; clear hN
      go_wp2_with fail
      exact ⟨rfl, _, rfl, HTT.out _ _ rfl oR⟩
     ·intro x wx ox hN TT HTT; unfold StepTo; simp only [putAll, Act.put, zA, zB, zC]; clear hN
      go_wp2_with fail
      exact ⟨rfl, _, rfl, HTT.out _ _ rfl oR⟩
     ·intro x wx ox hN TT HTT; unfold StepTo; simp only [putAll, Act.put, zA, zB, zC, eI (hN.1 rfl), eI (hN.2.1 rfl)]; clear hN
      go_wp2_with fail
      exact ⟨rfl, _, rfl, HTT.out _ _ rfl oR⟩
     ·intro x wx ox hN TT HTT; unfold StepTo; simp only [putAll, Act.put, zA, zB, zC, eI (hN.1 rfl)]; clear hN
      go_wp2_with fail
      exact ⟨rfl, _, rfl, HTT.out _ _ rfl oR⟩
     ·intro x wx ox hN TT HTT; unfold StepTo; simp only [putAll, Act.put, zA, zB, zC, eI (hN.1 rfl)]; clear hN; obtain ⟨m1, m2, m3, m4⟩ := HX.out wx ox
      go_wp2_with fail
      exact ⟨rfl, _, rfl, HTT.out _ _ rfl oR⟩
     ·intro x wx ox hN TT HTT; unfold StepTo; simp only [putAll, Act.put, zA, zB, zC]; clear hN
      go_wp2_with fail
      exact ⟨rfl, _, rfl, HTT.out _ _ rfl oR⟩
     ·intro x wx ox hN TT HTT; unfold StepTo; simp only [putAll, Act.put, zA, zB, zC, eI (hN.1 rfl), eI (hN.2.1 rfl)]; clear hN
      go_wp2_with fail
      exact ⟨rfl, _, rfl, HTT.out _ _ rfl oR⟩
     ·intro x wx ox hN TT HTT; unfold StepTo; simp only [putAll, Act.put, zA, zB, zC, eI (hN.1 rfl)]; clear hN; obtain ⟨m1, m2, m3, m4⟩ := HX.out wx ox
      go_wp2_with fail
      exact ⟨rfl, _, rfl, HTT.out _ _ rfl oR⟩
     intro xz wxz oxz hN; simp only [putAll, Act.put, zA, zB, zC, eI hN.1, eI hN.2.1, eI hN.2.2.1, eI hN.2.2.2.1, eI hN.2.2.2.2.1, eI hN.2.2.2.2.2.1, eI hN.2.2.2.2.2.2.1, eI hN.2.2.2.2.2.2.2.1, eI hN.2.2.2.2.2.2.2.2.1, eI hN.2.2.2.2.2.2.2.2.2.1, eI hN.2.2.2.2.2.2.2.2.2.2.1, eI hN.2.2.2.2.2.2.2.2.2.2.2.1, eI hN.2.2.2.2.2.2.2.2.2.2.2.2.1, eI hN.2.2.2.2.2.2.2.2.2.2.2.2.2.1, eI hN.2.2.2.2.2.2.2.2.2.2.2.2.2.2.1, eI hN.2.2.2.2.2.2.2.2.2.2.2.2.2.2.2.1]; clear hN; have OZ := hid (HP.out.trans ((Only.refl _ wr).drew.trans oxz)); clear oxz
     go_wp2_with fail
     go_roundw
     case rel => exact ⟨j + 1, by simp [go_sem], by omega, OZ⟩
     case measure => simp [intOf]; omega
    ·have hke : j = LN := by omega
     subst hke; have t4 : decide ((j : Int) < (j : Int)) = false := by simp
     go_wp2_with fail
     clear e3 f3
     go_roundw
     case rel => exact ⟨i + 1, by simp, by omega, HP⟩
     case measure => simp [intOf]; omega
  ·have hke : i = L := by omega
   subst hke; have t3 : decide ((i : Int) < (i : Int)) = false := by simp
   go_wp2_with fail
   go_ret
   exact ⟨rfl, HO.out⟩
end Go.Proofs.YtnkpoddbbdmipaaGreatDoor
