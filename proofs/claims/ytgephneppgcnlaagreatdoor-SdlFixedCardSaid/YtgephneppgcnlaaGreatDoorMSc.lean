/- The document's Same, of declarations. The document's Same, of declarations: of rows of them. -/
import Derived.Test.YtgephneppgcnlaaGreatDoorMSb
import Derived.Test.YtgephneppgcnlaaGreatDoorSmr
namespace Go.Proofs.YtgephneppgcnlaaGreatDoor
open Go Go.RowKit
set_option linter.unusedVariables false
set_option linter.unusedSimpArgs false

theorem cells11_of {w : World} {g p : Nat} {x0 x1 x2 x3 x4 x5 x6 x7 x8 x9 x10 : Value} (h : ∀ j q, ([x0, x1, x2, x3, x4, x5, x6, x7, x8, x9, x10] : List Value)[j]? = some q → w.cell? ⟨g, p + j, none⟩ = some q) : w.cell? ⟨g, p, none⟩ = some x0 ∧ w.cell? ⟨g, p + 1, none⟩ = some x1 ∧ w.cell? ⟨g, p + 2, none⟩ = some x2 ∧ w.cell? ⟨g, p + 3, none⟩ = some x3 ∧ w.cell? ⟨g, p + 4, none⟩ = some x4 ∧ w.cell? ⟨g, p + 5, none⟩ = some x5 ∧ w.cell? ⟨g, p + 6, none⟩ = some x6 ∧ w.cell? ⟨g, p + 7, none⟩ = some x7 ∧ w.cell? ⟨g, p + 8, none⟩ = some x8 ∧ w.cell? ⟨g, p + 9, none⟩ = some x9 ∧ w.cell? ⟨g, p + 10, none⟩ = some x10 := ⟨h 0 _ rfl, h 1 _ rfl, h 2 _ rfl, h 3 _ rfl, h 4 _ rfl, h 5 _ rfl, h 6 _ rfl, h 7 _ rfl, h 8 _ rfl, h 9 _ rfl, h 10 _ rfl⟩
theorem cells4_in {w : World} {g p : Nat} {x0 x1 x2 x3 : Value} (h : ∀ j q, ([x0, x1, x2, x3] : List Value)[j]? = some q → w.cell? ⟨g, p + j, none⟩ = some q) : w.cell? ⟨g, p, none⟩ = some x0 ∧ w.cell? ⟨g, p + 1, none⟩ = some x1 ∧ w.cell? ⟨g, p + 2, none⟩ = some x2 ∧ w.cell? ⟨g, p + 3, none⟩ = some x3 := ⟨h 0 _ rfl, h 1 _ rfl, h 2 _ rfl, h 3 _ rfl⟩
theorem fdC_form {w : World} {G : Nat → Prop} {f : FD} {cs : List Value} (h : CellsAt w G (fdC f) cs) : ∃ (m0 : List UInt8) (g : Option Addr) (lg eg : Nat) (s1 : List UInt8) (a1 : Option Addr) (l1 e1 : Nat) (b1 h1 : Bool) (k : Nat) (n : Int) (s2 : List UInt8) (a2 : Option Addr) (l2 e2 : Nat) (a3 : Option Addr) (l3 e3 : Nat), cs.toArray = #[.string ⟨m0.toArray⟩, .slice g lg eg, .string ⟨s1.toArray⟩, .slice a1 l1 e1, .bool b1, .bool h1, .int .u8 (k : Int), .int .i64 n, .string ⟨s2.toArray⟩, .slice a2 l2 e2, .slice a3 l3 e3] := by
  obtain ⟨gv, ts, us, rfl, hg, ht, hu⟩ := fd_cells h
  obtain ⟨g, eg, rfl, -⟩ := rows_at hg
  obtain ⟨s1, a1, l1, e1, b1, rfl⟩ := trC_form2 ht
  obtain ⟨k, n, s2, a2, l2, e2, a3, l3, e3, rfl⟩ := valC_form2 hu
  exact ⟨_, _, _, _, _, _, _, _, _, _, _, _, _, _, _, _, _, _, _, rfl⟩
def SameFD (f : FD) : Prop := ∀ (G G' : Nat → Prop) (w : World) (cs ds : List Value), CellsAt w G (fdC f) cs → CellsAt w G' (fdC f) ds →
    Calls Tryz.prog 38 #[.agg cs.toArray, .agg ds.toArray] w (fun e w' => e = .returned (.bool true) ∧ Only (fun _ => False) w w')
def SameFDs (fs : List FD) : Prop := ∀ (G G' : Nat → Prop) (w : World) (v u : Value), CellAt w G (.row 11 (fs.map fdC)) v → CellAt w G' (.row 11 (fs.map fdC)) u →
    Calls Tryz.prog 13 #[v, u] w (fun e w' => e = .returned (.bool true) ∧ Only (fun _ => False) w w')
set_option maxRecDepth 100000 in
set_option maxHeartbeats 16000000 in
theorem sameFds_of (fs : List FD) (ih : ∀ f ∈ fs, SameFD f) : SameFDs fs := by
  intro G G' w v u h h'
  obtain ⟨a, c, rfl, k1, k2, k3⟩ := rows_at h
  obtain ⟨a', c', rfl, k1', k2', k3'⟩ := rows_at h'
  obtain ⟨L, hL⟩ : ∃ L, fs.length = L := ⟨_, rfl⟩
  rw [hL] at k1 k1' ⊢
  have HL := Lib.hid hL; have HK := Lib.hid k3; have HK' := Lib.hid k3'; have IH := Lib.hid ih
  clear hL k3 k3' h h' ih
  go_enter Tryz.func13, Tryz.ntmps13
  go_wp2_with fail
  go_loopw [5] (fun v wr => ∃ i : Nat, v = .int .i64 (i : Int) ∧ i ≤ L ∧ Hid (Only (fun _ => False) w wr)) (fun v _ => L - (intOf v).toNat)
  case atStart => exact ⟨0, by simp, by omega, Lib.hid (Only.refl _ _)⟩
  case round =>
    obtain ⟨i, rfl, hi, HO⟩ := hrel
    by_cases hlt : i < L
    · have t3 : decide ((i : Int) < (L : Int)) = true := by simpa using hlt
      have hi0 : (0 : Int) ≤ (i : Int) := by omega
      have hi1 : (i : Int) < (L : Int) := by omega
      have hil : i < fs.length := by rw [HL.out]; exact hlt
      obtain ⟨gg, o, xs, rfl, -, q1, q2⟩ := HK.out i hil
      obtain ⟨gg', o', xs', rfl, -, q1', q2'⟩ := HK'.out i hil
      have hrec := fun (wx : World) (ox : Only (fun _ => False) w wx) => IH.out _ (List.getElem_mem hil) G G' wx _ _ (CellsAt.only ox (fun _ _ h => h) _ _ q2) (CellsAt.only ox (fun _ _ h => h) _ _ q2')
      obtain ⟨m0, g, lg, eg, s1, a1, l1, e1, b1, h1, k, n, s2, a2, l2, e2, a3, l3, e3, he⟩ := fdC_form q2
      obtain ⟨m0', g', lg', eg', s1', a1', l1', e1', b1', h1', k', n', s2', a2', l2', e2', a3', l3', e3', he'⟩ := fdC_form q2'
      rw [he, he'] at hrec
      have hxs : xs = (#[.string ⟨m0.toArray⟩, .slice g lg eg, .string ⟨s1.toArray⟩, .slice a1 l1 e1, .bool b1, .bool h1, .int .u8 (k : Int), .int .i64 n, .string ⟨s2.toArray⟩, .slice a2 l2 e2, .slice a3 l3 e3] : Array Value).toList := by rw [← he]
      have hxs' : xs' = (#[.string ⟨m0'.toArray⟩, .slice g' lg' eg', .string ⟨s1'.toArray⟩, .slice a1' l1' e1', .bool b1', .bool h1', .int .u8 (k' : Int), .int .i64 n', .string ⟨s2'.toArray⟩, .slice a2' l2' e2', .slice a3' l3' e3'] : Array Value).toList := by rw [← he']
      rw [hxs] at q1; rw [hxs'] at q1'
      obtain ⟨e0_, e1_, e2_, e3_, e4_, e5_, e6_, e7_, e8_, e9_, e10_⟩ := cells11_of q1
      obtain ⟨f0, f1, f2, f3, f4, f5, f6, f7, f8, f9, f10⟩ := cells11_of q1'
      have HX := Lib.hid (fun (wx : World) (ox : Only (fun _ => False) wr.drew wx) => have ow := HO.out.trans ((Only.refl _ wr).drew.trans ox); And.intro (keepc ow e0_) (And.intro (keepc ow e1_) (And.intro (keepc ow e2_) (And.intro (keepc ow e3_) (And.intro (keepc ow e4_) (And.intro (keepc ow e5_) (And.intro (keepc ow e6_) (And.intro (keepc ow e7_) (And.intro (keepc ow e8_) (And.intro (keepc ow e9_) (And.intro (keepc ow e10_) (And.intro (keepc ow f0) (And.intro (keepc ow f1) (And.intro (keepc ow f2) (And.intro (keepc ow f3) (And.intro (keepc ow f4) (And.intro (keepc ow f5) (And.intro (keepc ow f6) (And.intro (keepc ow f7) (And.intro (keepc ow f8) (And.intro (keepc ow f9) (keepc ow f10))))))))))))))))))))))
      have HREC := Lib.hid (fun (wx : World) (ox : Only (fun _ => False) wr.drew wx) => hrec wx (HO.out.trans ((Only.refl _ wr).drew.trans ox)))
      clear hrec q1 q1' q2 q2' he he' hxs hxs' e0_ e1_ e2_ e3_ e4_ e5_ e6_ e7_ e8_ e9_ e10_ f0 f1 f2 f3 f4 f5 f6 f7 f8 f9 f10
      go_upto_region 6 with (fail)
      refine wp_region_steps 9 (by kernel_rfl) rfl (by kernel_rfl) [some 17, some 18, some 19, some 20, some 21, some 22, some 23, some 24, some 25] rfl rfl (fun _ => False) [(fun v _ => v = (.slice (some ⟨gg, o, none⟩) L c)), (fun v _ => v = (.int .i64 (i : Int))), (fun v _ => v = (.pointer (some ⟨gg, o + i * 11, none⟩))), (fun v _ => v = (.agg #[.string ⟨m0.toArray⟩, .slice g lg eg, .string ⟨s1.toArray⟩, .slice a1 l1 e1, .bool b1, .bool h1, .int .u8 (k : Int), .int .i64 n, .string ⟨s2.toArray⟩, .slice a2 l2 e2, .slice a3 l3 e3])), (fun v _ => v = (.slice (some ⟨gg', o', none⟩) L c')), (fun v _ => v = (.int .i64 (i : Int))), (fun v _ => v = (.pointer (some ⟨gg', o' + i * 11, none⟩))), (fun v _ => v = (.agg #[.string ⟨m0'.toArray⟩, .slice g' lg' eg', .string ⟨s1'.toArray⟩, .slice a1' l1' e1', .bool b1', .bool h1', .int .u8 (k' : Int), .int .i64 n', .string ⟨s2'.toArray⟩, .slice a2' l2' e2', .slice a3' l3' e3'])), (fun v _ => v = (.bool true))] rfl ⟨?_, ?_, ?_, ?_, ?_, ?_, ?_, ?_, ?_, trivial⟩ _ rfl ⟨?_, ?_, ?_, ?_, ?_, ?_, ?_, ?_, ?_, trivial⟩ ?_
      · exact Stable.is _ _
      · exact Stable.is _ _
      · exact Stable.is _ _
      · exact Stable.is _ _
      · exact Stable.is _ _
      · exact Stable.is _ _
      · exact Stable.is _ _
      · exact Stable.is _ _
      · exact Stable.is _ _
      · intro x wx ox hN TT HTT
        clear hN
        unfold StepTo
        simp only [putAll, Act.put, List.setIfInBounds_toArray, List.set_cons_succ, List.set_cons_zero]
        go_wp2_with fail
        exact ⟨rfl, _, rfl, HTT.out _ _ (rfl) (Only.refl _ _)⟩
      · intro x wx ox hN TT HTT
        clear hN
        unfold StepTo
        simp only [putAll, Act.put, List.setIfInBounds_toArray, List.set_cons_succ, List.set_cons_zero]
        go_wp2_with fail
        exact ⟨rfl, _, rfl, HTT.out _ _ (rfl) (Only.refl _ _)⟩
      · intro x wx ox hN TT HTT
        have r17 : x 0 = (.slice (some ⟨gg, o, none⟩) L c) := hN.1 rfl
        have r18 : x 1 = (.int .i64 (i : Int)) := hN.2.1 rfl
        clear hN
        unfold StepTo
        simp only [putAll, Act.put, List.setIfInBounds_toArray, List.set_cons_succ, List.set_cons_zero, r17, r18]
        clear r17 r18
        go_wp2_with fail
        exact ⟨rfl, _, rfl, HTT.out _ _ (rfl) (Only.refl _ _)⟩
      · intro x wx ox hN TT HTT
        have r19 : x 2 = (.pointer (some ⟨gg, o + i * 11, none⟩)) := hN.1 rfl
        clear hN
        unfold StepTo
        simp only [putAll, Act.put, List.setIfInBounds_toArray, List.set_cons_succ, List.set_cons_zero, r19]
        clear r19
        obtain ⟨m0_, m1_, m2_, m3_, m4_, m5_, m6_, m7_, m8_, m9_, m10_, m11_, m12_, m13_, m14_, m15_, m16_, m17_, m18_, m19_, m20_, m21_⟩ := HX.out wx ox
        go_wp2_with fail
        exact ⟨rfl, _, rfl, HTT.out _ _ (rfl) (Only.refl _ _)⟩
      · intro x wx ox hN TT HTT
        clear hN
        unfold StepTo
        simp only [putAll, Act.put, List.setIfInBounds_toArray, List.set_cons_succ, List.set_cons_zero]
        go_wp2_with fail
        exact ⟨rfl, _, rfl, HTT.out _ _ (rfl) (Only.refl _ _)⟩
      · intro x wx ox hN TT HTT
        clear hN
        unfold StepTo
        simp only [putAll, Act.put, List.setIfInBounds_toArray, List.set_cons_succ, List.set_cons_zero]
        go_wp2_with fail
        exact ⟨rfl, _, rfl, HTT.out _ _ (rfl) (Only.refl _ _)⟩
      · intro x wx ox hN TT HTT
        have r21 : x 4 = (.slice (some ⟨gg', o', none⟩) L c') := hN.1 rfl
        have r22 : x 5 = (.int .i64 (i : Int)) := hN.2.1 rfl
        clear hN
        unfold StepTo
        simp only [putAll, Act.put, List.setIfInBounds_toArray, List.set_cons_succ, List.set_cons_zero, r21, r22]
        clear r21 r22
        go_wp2_with fail
        exact ⟨rfl, _, rfl, HTT.out _ _ (rfl) (Only.refl _ _)⟩
      · intro x wx ox hN TT HTT
        have r23 : x 6 = (.pointer (some ⟨gg', o' + i * 11, none⟩)) := hN.1 rfl
        clear hN
        unfold StepTo
        simp only [putAll, Act.put, List.setIfInBounds_toArray, List.set_cons_succ, List.set_cons_zero, r23]
        clear r23
        obtain ⟨m0_, m1_, m2_, m3_, m4_, m5_, m6_, m7_, m8_, m9_, m10_, m11_, m12_, m13_, m14_, m15_, m16_, m17_, m18_, m19_, m20_, m21_⟩ := HX.out wx ox
        go_wp2_with fail
        exact ⟨rfl, _, rfl, HTT.out _ _ (rfl) (Only.refl _ _)⟩
      · intro x wx ox hN TT HTT
        have r20 : x 3 = (.agg #[.string ⟨m0.toArray⟩, .slice g lg eg, .string ⟨s1.toArray⟩, .slice a1 l1 e1, .bool b1, .bool h1, .int .u8 (k : Int), .int .i64 n, .string ⟨s2.toArray⟩, .slice a2 l2 e2, .slice a3 l3 e3]) := hN.1 rfl
        have r24 : x 7 = (.agg #[.string ⟨m0'.toArray⟩, .slice g' lg' eg', .string ⟨s1'.toArray⟩, .slice a1' l1' e1', .bool b1', .bool h1', .int .u8 (k' : Int), .int .i64 n', .string ⟨s2'.toArray⟩, .slice a2' l2' e2', .slice a3' l3' e3']) := hN.2.1 rfl
        clear hN
        unfold StepTo
        simp only [putAll, Act.put, List.setIfInBounds_toArray, List.set_cons_succ, List.set_cons_zero, r20, r24]
        clear r20 r24
        have ht := HREC.out wx ox
        have HT := Lib.hid ht; clear ht
        go_wp2_with fail
        refine HT.out.mono ?_
        rintro e w6 ⟨rfl, o6⟩
        have O6 := Lib.hid o6; clear o6
        go_wp2_with fail
        exact ⟨rfl, _, rfl, HTT.out _ _ (rfl) (O6.out)⟩
      intro xz wxz oxz hN
      have r17 : xz 0 = (.slice (some ⟨gg, o, none⟩) L c) := hN.1
      have r18 : xz 1 = (.int .i64 (i : Int)) := hN.2.1
      have r19 : xz 2 = (.pointer (some ⟨gg, o + i * 11, none⟩)) := hN.2.2.1
      have r20 : xz 3 = (.agg #[.string ⟨m0.toArray⟩, .slice g lg eg, .string ⟨s1.toArray⟩, .slice a1 l1 e1, .bool b1, .bool h1, .int .u8 (k : Int), .int .i64 n, .string ⟨s2.toArray⟩, .slice a2 l2 e2, .slice a3 l3 e3]) := hN.2.2.2.1
      have r21 : xz 4 = (.slice (some ⟨gg', o', none⟩) L c') := hN.2.2.2.2.1
      have r22 : xz 5 = (.int .i64 (i : Int)) := hN.2.2.2.2.2.1
      have r23 : xz 6 = (.pointer (some ⟨gg', o' + i * 11, none⟩)) := hN.2.2.2.2.2.2.1
      have r24 : xz 7 = (.agg #[.string ⟨m0'.toArray⟩, .slice g' lg' eg', .string ⟨s1'.toArray⟩, .slice a1' l1' e1', .bool b1', .bool h1', .int .u8 (k' : Int), .int .i64 n', .string ⟨s2'.toArray⟩, .slice a2' l2' e2', .slice a3' l3' e3']) := hN.2.2.2.2.2.2.2.1
      have r25 : xz 8 = (.bool true) := hN.2.2.2.2.2.2.2.2.1
      clear hN
      simp only [putAll, Act.put, List.setIfInBounds_toArray, List.set_cons_succ, List.set_cons_zero, r17, r18, r19, r20, r21, r22, r23, r24, r25]
      clear r17 r18 r19 r20 r21 r22 r23 r24 r25
      have OZ := Lib.hid (HO.out.trans ((Only.refl _ wr).drew.trans oxz)); clear oxz
      go_wp2_with fail
      go_roundw
      case rel => exact ⟨i + 1, by simp [go_sem], by omega, OZ⟩
      case measure => simp [intOf]; omega
    · have hke : i = L := by omega
      subst hke
      have t3 : decide ((i : Int) < (i : Int)) = false := by simp
      go_wp2_with fail
      go_ret
      exact ⟨rfl, HO.out⟩
set_option maxRecDepth 100000 in
set_option maxHeartbeats 16000000 in
theorem sameFd_of (f : FD) (ih : SameFDs (f.args.map FD.of)) : SameFD f := by
  intro G G' w cs ds h h'
  obtain ⟨gv, ts, us, rfl, hg, ht, hu⟩ := fd_cells h
  obtain ⟨gv', ts', us', rfl, hg', ht', hu'⟩ := fd_cells h'
  have hg2 : CellAt w G (.row 11 ((f.args.map FD.of).map fdC)) gv := by rw [List.map_map]; exact hg
  have hg2' : CellAt w G' (.row 11 ((f.args.map FD.of).map fdC)) gv' := by rw [List.map_map]; exact hg'
  have hga := fun (wx : World) (ox : Only (fun _ => False) w wx) => ih G G' wx _ _ (CellAt.only ox (fun _ _ h => h) _ _ hg2) (CellAt.only ox (fun _ _ h => h) _ _ hg2')
  have hta := fun (wx : World) (ox : Only (fun _ => False) w wx) => sameT_true _ G G' wx _ _ (CellsAt.only ox (fun _ _ h => h) _ _ ht) (CellsAt.only ox (fun _ _ h => h) _ _ ht')
  have hva := fun (wx : World) (ox : Only (fun _ => False) w wx) => sameV_true _ (CellsAt.only ox (fun _ _ h => h) _ _ hu) (CellsAt.only ox (fun _ _ h => h) _ _ hu')
  obtain ⟨g, eg, rfl, -⟩ := rows_at hg
  obtain ⟨g', eg', rfl, -⟩ := rows_at hg'
  obtain ⟨s1, a1, l1, e1, b1, rfl⟩ := trC_form2 ht
  obtain ⟨s1', a1', l1', e1', b1', rfl⟩ := trC_form2 ht'
  obtain ⟨k, n, s2, a2, l2, e2, a3, l3, e3, rfl⟩ := valC_form2 hu
  obtain ⟨k', n', s2', a2', l2', e2', a3', l3', e3', rfl⟩ := valC_form2 hu'
  generalize f.name = nm at *
  generalize f.has = has at *
  generalize f.args.length = lg at *
  simp only [List.cons_append, List.nil_append]
  clear h h' hg hg' hg2 hg2' ht ht' hu hu'
  obtain ⟨wb, hwb⟩ : ∃ wb, (w.alloc (.cells #[.string ⟨nm.toArray⟩, .slice g lg eg, .string ⟨s1.toArray⟩, .slice a1 l1 e1, .bool b1, .bool has, .int .u8 (k : Int), .int .i64 n, .string ⟨s2.toArray⟩, .slice a2 l2 e2, .slice a3 l3 e3] 42)).alloc (.cells #[.string ⟨nm.toArray⟩, .slice g' lg eg', .string ⟨s1'.toArray⟩, .slice a1' l1' e1', .bool b1', .bool has, .int .u8 (k' : Int), .int .i64 n', .string ⟨s2'.toArray⟩, .slice a2' l2' e2', .slice a3' l3' e3'] 42) = wb := ⟨_, rfl⟩
  have ob : Only (fun _ => False) w wb := by rw [← hwb]; exact ((Only.refl _ w).alloc _).alloc _
  obtain ⟨bA, hbA⟩ : ∃ b, w.heap.size = b := ⟨_, rfl⟩
  obtain ⟨bB, hbB⟩ : ∃ b, bA + 1 = b := ⟨_, rfl⟩
  have hx1 : wb.heap[bA]? = some (.cells #[.string ⟨nm.toArray⟩, .slice g lg eg, .string ⟨s1.toArray⟩, .slice a1 l1 e1, .bool b1, .bool has, .int .u8 (k : Int), .int .i64 n, .string ⟨s2.toArray⟩, .slice a2 l2 e2, .slice a3 l3 e3] 42 (0, 0)) := by rw [← hwb, ← hbA]; exact heap_old (heap_new w _) _
  have hx2 : wb.heap[bB]? = some (.cells #[.string ⟨nm.toArray⟩, .slice g' lg eg', .string ⟨s1'.toArray⟩, .slice a1' l1' e1', .bool b1', .bool has, .int .u8 (k' : Int), .int .i64 n', .string ⟨s2'.toArray⟩, .slice a2' l2' e2', .slice a3' l3' e3'] 42 (0, 0)) := by
    rw [← hwb, ← hbB, ← hbA]
    have := heap_new (w.alloc (.cells #[.string ⟨nm.toArray⟩, .slice g lg eg, .string ⟨s1.toArray⟩, .slice a1 l1 e1, .bool b1, .bool has, .int .u8 (k : Int), .int .i64 n, .string ⟨s2.toArray⟩, .slice a2 l2 e2, .slice a3 l3 e3] 42)) (.cells #[.string ⟨nm.toArray⟩, .slice g' lg eg', .string ⟨s1'.toArray⟩, .slice a1' l1' e1', .bool b1', .bool has, .int .u8 (k' : Int), .int .i64 n', .string ⟨s2'.toArray⟩, .slice a2' l2' e2', .slice a3' l3' e3'] 42)
    rw [World.size_alloc] at this; exact this
  obtain ⟨c0, c1, c2, c3, c4, c5, c6, c7, c8, c9, c10, -⟩ := boxN11 hx1
  obtain ⟨d0, d1, d2, d3, d4, d5, d6, d7, d8, d9, d10, -⟩ := boxN11 hx2
  have HOB := Lib.hid ob; have HWB := Lib.hid hwb; have HBA := Lib.hid hbA; have HBB := Lib.hid hbB
  have HGA := Lib.hid (fun (wx : World) (ox : Only (fun _ => False) wb wx) => hga wx (HOB.out.trans ox))
  have HTA := Lib.hid (fun (wx : World) (ox : Only (fun _ => False) wb wx) => hta wx (HOB.out.trans ox))
  have HVA := Lib.hid (fun (wx : World) (ox : Only (fun _ => False) wb wx) => hva wx (HOB.out.trans ox))
  clear hx1 hx2 ob hwb hbA hbB hga hta hva
  go_enter Tryz.func38, Tryz.ntmps38
  go_upto_region 1 with (fail)
  rw [HWB.out, HBA.out, HBB.out]
  go_wp2_with fail
  refine (HTA.out wb (Only.refl _ _)).mono ?_
  rintro e w6 ⟨rfl, o6⟩
  have c0 := keepc o6 c0
  have c1 := keepc o6 c1
  have c2 := keepc o6 c2
  have c3 := keepc o6 c3
  have c4 := keepc o6 c4
  have c5 := keepc o6 c5
  have c6 := keepc o6 c6
  have c7 := keepc o6 c7
  have c8 := keepc o6 c8
  have c9 := keepc o6 c9
  have c10 := keepc o6 c10
  have d0 := keepc o6 d0
  have d1 := keepc o6 d1
  have d2 := keepc o6 d2
  have d3 := keepc o6 d3
  have d4 := keepc o6 d4
  have d5 := keepc o6 d5
  have d6 := keepc o6 d6
  have d7 := keepc o6 d7
  have d8 := keepc o6 d8
  have d9 := keepc o6 d9
  have d10 := keepc o6 d10
  have HO6 := Lib.hid o6; clear o6
  go_wp2_with fail
  refine (HVA.out w6 HO6.out).mono ?_
  rintro e w7 ⟨rfl, o7⟩
  have c0 := keepc o7 c0
  have c1 := keepc o7 c1
  have c2 := keepc o7 c2
  have c3 := keepc o7 c3
  have c4 := keepc o7 c4
  have c5 := keepc o7 c5
  have c6 := keepc o7 c6
  have c7 := keepc o7 c7
  have c8 := keepc o7 c8
  have c9 := keepc o7 c9
  have c10 := keepc o7 c10
  have d0 := keepc o7 d0
  have d1 := keepc o7 d1
  have d2 := keepc o7 d2
  have d3 := keepc o7 d3
  have d4 := keepc o7 d4
  have d5 := keepc o7 d5
  have d6 := keepc o7 d6
  have d7 := keepc o7 d7
  have d8 := keepc o7 d8
  have d9 := keepc o7 d9
  have d10 := keepc o7 d10
  have HO7 := Lib.hid (HO6.out.trans o7); clear o7
  go_wp2_with fail
  refine (HGA.out w7 HO7.out).mono ?_
  rintro e w8 ⟨rfl, o8⟩
  have HO8 := Lib.hid (HOB.out.trans (HO7.out.trans o8)); clear o8
  clear c0 c1 c2 c3 c4 c5 c6 c7 c8 c9 c10 d0 d1 d2 d3 d4 d5 d6 d7 d8 d9 d10
  go_wp2_with fail
  go_ret
  exact ⟨rfl, HO8.out⟩
theorem sameFDs_all (fs : List FD) : SameFDs fs := sameFds_of fs fun f _ => sameFd_of f (sameFds_of _ fun g hg => by
  obtain ⟨i, _, rfl⟩ := List.mem_map.1 hg
  exact sameFd_of _ (sameFds_of _ fun f h => by cases h))
end Go.Proofs.YtgephneppgcnlaaGreatDoor
namespace Go.Proofs.YtgephneppgcnlaaGreatDoor
open Go Go.RowKit
set_option linter.unusedVariables false
set_option linter.unusedSimpArgs false

set_option maxRecDepth 100000 in
set_option maxHeartbeats 16000000 in
theorem sameTDs (ts : List TD) (G G' : Nat → Prop) (w : World) (v u : Value) (h : CellAt w G (.row 4 (ts.map tdC)) v) (h' : CellAt w G' (.row 4 (ts.map tdC)) u) :
    Calls Tryz.prog 7 #[v, u] w (fun e w' => e = .returned (.bool true) ∧ Only (fun _ => False) w w') := by
  obtain ⟨a, c, rfl, k1, k2, k3⟩ := rows_at h
  obtain ⟨a', c', rfl, k1', k2', k3'⟩ := rows_at h'
  obtain ⟨L, hL⟩ : ∃ L, ts.length = L := ⟨_, rfl⟩
  rw [hL] at k1 k1' ⊢
  have HL := Lib.hid hL; have HK := Lib.hid k3; have HK' := Lib.hid k3'
  clear hL k3 k3' h h'
  go_enter Tryz.func7, Tryz.ntmps7
  go_wp2_with fail
  go_loopw [5] (fun v wr => ∃ i : Nat, v = .int .i64 (i : Int) ∧ i ≤ L ∧ Hid (Only (fun _ => False) w wr)) (fun v _ => L - (intOf v).toNat)
  case atStart => exact ⟨0, by simp, by omega, Lib.hid (Only.refl _ _)⟩
  case round =>
    obtain ⟨i, rfl, hi, HO⟩ := hrel
    by_cases hlt : i < L
    · have t3 : decide ((i : Int) < (L : Int)) = true := by simpa using hlt
      have hi0 : (0 : Int) ≤ (i : Int) := by omega
      have hi1 : (i : Int) < (L : Int) := by omega
      have hil : i < ts.length := by rw [HL.out]; exact hlt
      obtain ⟨g, o, xs, rfl, -, q1, q2⟩ := HK.out i hil
      obtain ⟨g', o', xs', rfl, -, q1', q2'⟩ := HK'.out i hil
      obtain ⟨fv, nv, rfl, hf, hn⟩ := td_cells q2
      obtain ⟨fv', nv', rfl, hf', hn'⟩ := td_cells q2'
      have hrec := fun (wx : World) (ox : Only (fun _ => False) w wx) => sameFDs_all _ G G' wx _ _ (CellAt.only ox (fun _ _ h => h) _ _ hf) (CellAt.only ox (fun _ _ h => h) _ _ hf')
      obtain ⟨af, cf, rfl, -, -, -⟩ := rows_at hf
      obtain ⟨af', cf', rfl, -, -, -⟩ := rows_at hf'
      obtain ⟨an, cn, rfl, n1, n2, n3⟩ := rows_at hn
      obtain ⟨an', cn', rfl, n1', n2', n3'⟩ := rows_at hn'
      obtain ⟨e0, e1, e2, e3⟩ := cells4_in q1
      obtain ⟨f0, f1, f2, f3⟩ := cells4_in q1'
      generalize ts[i].kind = kk at *
      generalize ts[i].name = nm at *
      generalize ts[i].fields.length = LF at *
      generalize ts[i].names = ns at *
      obtain ⟨LN, hLN⟩ : ∃ L, ns.length = L := ⟨_, rfl⟩
      rw [hLN] at n1 n1' e3 f3
      have oww : Only (fun _ => False) w wr := HO.out
      have HX := Lib.hid (fun (wx : World) (ox : Only (fun _ => False) wr.drew wx) => have ow := oww.trans ((Only.refl _ wr).drew.trans ox); And.intro (keepc ow e0) (And.intro (keepc ow e1) (And.intro (keepc ow e2) (And.intro (keepc ow e3) (And.intro (keepc ow f0) (And.intro (keepc ow f1) (And.intro (keepc ow f2) (keepc ow f3))))))))
      have HREC := Lib.hid (fun (wx : World) (ox : Only (fun _ => False) wr.drew wx) => hrec wx (oww.trans ((Only.refl _ wr).drew.trans ox)))
      have HN := Lib.hid n3; have HN' := Lib.hid n3'; have HLN := Lib.hid hLN
      have HE := Lib.hid (And.intro e3 f3)
      clear hrec q1 q1' q2 q2' hf hf' hn hn' e0 e1 e2 e3 f0 f1 f2 f3 oww n3 n3' hLN
      go_upto_region 6 with (fail)
      refine wp_region_steps 52 (by kernel_rfl) rfl (by kernel_rfl) [some 18, some 19, some 20, some 21, some 22, some 23, some 24, some 25, some 26, some 27, some 28, some 29, some 30, some 31, some 32, some 33, some 34, some 35, some 36, some 37, some 38, some 39, some 40, some 41, some 42, some 43, some 44, some 45, some 46, some 47, some 48, some 49, some 50, some 51, some 52, some 53, some 54, some 55, some 56, some 57, some 58, some 59, some 60, some 61, some 62, some 63, some 64, some 65, some 66, some 67, some 68, some 69] rfl rfl (fun _ => False) [(fun v _ => v = (.slice (some ⟨g, o, none⟩) L c)), (fun v _ => v = (.int .i64 (i : Int))), (fun v _ => v = (.pointer (some ⟨g, o + i * 4, none⟩))), (fun v _ => v = (.pointer (some ⟨g, o + i * 4, none⟩))), (fun v _ => v = (.int .u8 (kk : Int))), (fun v _ => v = (.slice (some ⟨g', o', none⟩) L c')), (fun v _ => v = (.int .i64 (i : Int))), (fun v _ => v = (.pointer (some ⟨g', o' + i * 4, none⟩))), (fun v _ => v = (.pointer (some ⟨g', o' + i * 4, none⟩))), (fun v _ => v = (.int .u8 (kk : Int))), (fun v _ => v = (.bool false)), (fun v _ => v = (.bool false)), (fun v _ => v = (.slice (some ⟨g, o, none⟩) L c)), (fun v _ => v = (.int .i64 (i : Int))), (fun v _ => v = (.pointer (some ⟨g, o + i * 4, none⟩))), (fun v _ => v = (.pointer (some ⟨g, o + i * 4 + 1, none⟩))), (fun v _ => v = (.string ⟨nm.toArray⟩)), (fun v _ => v = (.slice (some ⟨g', o', none⟩) L c')), (fun v _ => v = (.int .i64 (i : Int))), (fun v _ => v = (.pointer (some ⟨g', o' + i * 4, none⟩))), (fun v _ => v = (.pointer (some ⟨g', o' + i * 4 + 1, none⟩))), (fun v _ => v = (.string ⟨nm.toArray⟩)), (fun v _ => v = (.bool false)), (fun v _ => v = (.bool false)), (fun v _ => v = (.bool false)), (fun v _ => v = (.slice (some ⟨g, o, none⟩) L c)), (fun v _ => v = (.int .i64 (i : Int))), (fun v _ => v = (.pointer (some ⟨g, o + i * 4, none⟩))), (fun v _ => v = (.pointer (some ⟨g, o + i * 4 + 3, none⟩))), (fun v _ => v = (.slice an LN cn)), (fun v _ => v = (.int .i64 (LN : Int))), (fun v _ => v = (.slice (some ⟨g', o', none⟩) L c')), (fun v _ => v = (.int .i64 (i : Int))), (fun v _ => v = (.pointer (some ⟨g', o' + i * 4, none⟩))), (fun v _ => v = (.pointer (some ⟨g', o' + i * 4 + 3, none⟩))), (fun v _ => v = (.slice an' LN cn')), (fun v _ => v = (.int .i64 (LN : Int))), (fun v _ => v = (.bool false)), (fun v _ => v = (.bool false)), (fun v _ => v = (.bool false)), (fun v _ => v = (.slice (some ⟨g, o, none⟩) L c)), (fun v _ => v = (.int .i64 (i : Int))), (fun v _ => v = (.pointer (some ⟨g, o + i * 4, none⟩))), (fun v _ => v = (.pointer (some ⟨g, o + i * 4 + 2, none⟩))), (fun v _ => v = (.slice af LF cf)), (fun v _ => v = (.slice (some ⟨g', o', none⟩) L c')), (fun v _ => v = (.int .i64 (i : Int))), (fun v _ => v = (.pointer (some ⟨g', o' + i * 4, none⟩))), (fun v _ => v = (.pointer (some ⟨g', o' + i * 4 + 2, none⟩))), (fun v _ => v = (.slice af' LF cf')), (fun v _ => v = (.bool true)), (fun v _ => v = (.bool false))] rfl ⟨?_, ?_, ?_, ?_, ?_, ?_, ?_, ?_, ?_, ?_, ?_, ?_, ?_, ?_, ?_, ?_, ?_, ?_, ?_, ?_, ?_, ?_, ?_, ?_, ?_, ?_, ?_, ?_, ?_, ?_, ?_, ?_, ?_, ?_, ?_, ?_, ?_, ?_, ?_, ?_, ?_, ?_, ?_, ?_, ?_, ?_, ?_, ?_, ?_, ?_, ?_, ?_, trivial⟩ _ rfl ⟨?_, ?_, ?_, ?_, ?_, ?_, ?_, ?_, ?_, ?_, ?_, ?_, ?_, ?_, ?_, ?_, ?_, ?_, ?_, ?_, ?_, ?_, ?_, ?_, ?_, ?_, ?_, ?_, ?_, ?_, ?_, ?_, ?_, ?_, ?_, ?_, ?_, ?_, ?_, ?_, ?_, ?_, ?_, ?_, ?_, ?_, ?_, ?_, ?_, ?_, ?_, ?_, trivial⟩ ?_
      · exact Stable.is _ _
      · exact Stable.is _ _
      · exact Stable.is _ _
      · exact Stable.is _ _
      · exact Stable.is _ _
      · exact Stable.is _ _
      · exact Stable.is _ _
      · exact Stable.is _ _
      · exact Stable.is _ _
      · exact Stable.is _ _
      · exact Stable.is _ _
      · exact Stable.is _ _
      · exact Stable.is _ _
      · exact Stable.is _ _
      · exact Stable.is _ _
      · exact Stable.is _ _
      · exact Stable.is _ _
      · exact Stable.is _ _
      · exact Stable.is _ _
      · exact Stable.is _ _
      · exact Stable.is _ _
      · exact Stable.is _ _
      · exact Stable.is _ _
      · exact Stable.is _ _
      · exact Stable.is _ _
      · exact Stable.is _ _
      · exact Stable.is _ _
      · exact Stable.is _ _
      · exact Stable.is _ _
      · exact Stable.is _ _
      · exact Stable.is _ _
      · exact Stable.is _ _
      · exact Stable.is _ _
      · exact Stable.is _ _
      · exact Stable.is _ _
      · exact Stable.is _ _
      · exact Stable.is _ _
      · exact Stable.is _ _
      · exact Stable.is _ _
      · exact Stable.is _ _
      · exact Stable.is _ _
      · exact Stable.is _ _
      · exact Stable.is _ _
      · exact Stable.is _ _
      · exact Stable.is _ _
      · exact Stable.is _ _
      · exact Stable.is _ _
      · exact Stable.is _ _
      · exact Stable.is _ _
      · exact Stable.is _ _
      · exact Stable.is _ _
      · exact Stable.is _ _
      · intro x wx ox hN TT HTT
        clear hN
        unfold StepTo
        simp only [putAll, Act.put, List.setIfInBounds_toArray, List.set_cons_succ, List.set_cons_zero]
        go_wp2_with fail
        exact ⟨rfl, _, rfl, HTT.out _ _ (rfl) (Only.refl _ _)⟩
      · intro x wx ox hN TT HTT
        clear hN
        unfold StepTo
        simp only [putAll, Act.put, List.setIfInBounds_toArray, List.set_cons_succ, List.set_cons_zero]
        go_wp2_with fail
        exact ⟨rfl, _, rfl, HTT.out _ _ (rfl) (Only.refl _ _)⟩
      · intro x wx ox hN TT HTT
        have r18 : x 0 = (.slice (some ⟨g, o, none⟩) L c) := hN.1 rfl
        have r19 : x 1 = (.int .i64 (i : Int)) := hN.2.1 rfl
        clear hN
        unfold StepTo
        simp only [putAll, Act.put, List.setIfInBounds_toArray, List.set_cons_succ, List.set_cons_zero, r18, r19]
        clear r18 r19
        go_wp2_with fail
        exact ⟨rfl, _, rfl, HTT.out _ _ (rfl) (Only.refl _ _)⟩
      · intro x wx ox hN TT HTT
        have r20 : x 2 = (.pointer (some ⟨g, o + i * 4, none⟩)) := hN.1 rfl
        clear hN
        unfold StepTo
        simp only [putAll, Act.put, List.setIfInBounds_toArray, List.set_cons_succ, List.set_cons_zero, r20]
        clear r20
        go_wp2_with fail
        exact ⟨rfl, _, rfl, HTT.out _ _ (rfl) (Only.refl _ _)⟩
      · intro x wx ox hN TT HTT
        have r21 : x 3 = (.pointer (some ⟨g, o + i * 4, none⟩)) := hN.1 rfl
        clear hN
        unfold StepTo
        simp only [putAll, Act.put, List.setIfInBounds_toArray, List.set_cons_succ, List.set_cons_zero, r21]
        clear r21
        obtain ⟨m1, m2, m3, m4, m5, m6, m7, m8⟩ := HX.out wx ox
        go_wp2_with fail
        exact ⟨rfl, _, rfl, HTT.out _ _ (rfl) (Only.refl _ _)⟩
      · intro x wx ox hN TT HTT
        clear hN
        unfold StepTo
        simp only [putAll, Act.put, List.setIfInBounds_toArray, List.set_cons_succ, List.set_cons_zero]
        go_wp2_with fail
        exact ⟨rfl, _, rfl, HTT.out _ _ (rfl) (Only.refl _ _)⟩
      · intro x wx ox hN TT HTT
        clear hN
        unfold StepTo
        simp only [putAll, Act.put, List.setIfInBounds_toArray, List.set_cons_succ, List.set_cons_zero]
        go_wp2_with fail
        exact ⟨rfl, _, rfl, HTT.out _ _ (rfl) (Only.refl _ _)⟩
      · intro x wx ox hN TT HTT
        have r23 : x 5 = (.slice (some ⟨g', o', none⟩) L c') := hN.1 rfl
        have r24 : x 6 = (.int .i64 (i : Int)) := hN.2.1 rfl
        clear hN
        unfold StepTo
        simp only [putAll, Act.put, List.setIfInBounds_toArray, List.set_cons_succ, List.set_cons_zero, r23, r24]
        clear r23 r24
        go_wp2_with fail
        exact ⟨rfl, _, rfl, HTT.out _ _ (rfl) (Only.refl _ _)⟩
      · intro x wx ox hN TT HTT
        have r25 : x 7 = (.pointer (some ⟨g', o' + i * 4, none⟩)) := hN.1 rfl
        clear hN
        unfold StepTo
        simp only [putAll, Act.put, List.setIfInBounds_toArray, List.set_cons_succ, List.set_cons_zero, r25]
        clear r25
        go_wp2_with fail
        exact ⟨rfl, _, rfl, HTT.out _ _ (rfl) (Only.refl _ _)⟩
      · intro x wx ox hN TT HTT
        have r26 : x 8 = (.pointer (some ⟨g', o' + i * 4, none⟩)) := hN.1 rfl
        clear hN
        unfold StepTo
        simp only [putAll, Act.put, List.setIfInBounds_toArray, List.set_cons_succ, List.set_cons_zero, r26]
        clear r26
        obtain ⟨m1, m2, m3, m4, m5, m6, m7, m8⟩ := HX.out wx ox
        go_wp2_with fail
        exact ⟨rfl, _, rfl, HTT.out _ _ (rfl) (Only.refl _ _)⟩
      · intro x wx ox hN TT HTT
        have r22 : x 4 = (.int .u8 (kk : Int)) := hN.1 rfl
        have r27 : x 9 = (.int .u8 (kk : Int)) := hN.2.1 rfl
        clear hN
        unfold StepTo
        simp only [putAll, Act.put, List.setIfInBounds_toArray, List.set_cons_succ, List.set_cons_zero, r22, r27]
        clear r22 r27
        go_wp2_with fail
        exact ⟨rfl, _, rfl, HTT.out _ _ (rfl) (Only.refl _ _)⟩
      · intro x wx ox hN TT HTT
        have r28 : x 10 = (.bool false) := hN.1 rfl
        clear hN
        unfold StepTo
        simp only [putAll, Act.put, List.setIfInBounds_toArray, List.set_cons_succ, List.set_cons_zero, r28]
        clear r28
        go_wp2_with fail
        exact ⟨rfl, _, rfl, HTT.out _ _ (rfl) (Only.refl _ _)⟩
      · intro x wx ox hN TT HTT
        have r29 : x 11 = (.bool false) := hN.1 rfl
        clear hN
        unfold StepTo
        simp only [putAll, Act.put, List.setIfInBounds_toArray, List.set_cons_succ, List.set_cons_zero, r29]
        clear r29
        go_wp2_with fail
        exact ⟨rfl, _, rfl, HTT.out _ _ (rfl) (Only.refl _ _)⟩
      · intro x wx ox hN TT HTT
        have r29 : x 11 = (.bool false) := hN.1 rfl
        clear hN
        unfold StepTo
        simp only [putAll, Act.put, List.setIfInBounds_toArray, List.set_cons_succ, List.set_cons_zero, r29]
        clear r29
        go_wp2_with fail
        exact ⟨rfl, _, rfl, HTT.out _ _ (rfl) (Only.refl _ _)⟩
      · intro x wx ox hN TT HTT
        have r30 : x 12 = (.slice (some ⟨g, o, none⟩) L c) := hN.1 rfl
        have r31 : x 13 = (.int .i64 (i : Int)) := hN.2.1 rfl
        have r29 : x 11 = (.bool false) := hN.2.2.1 rfl
        clear hN
        unfold StepTo
        simp only [putAll, Act.put, List.setIfInBounds_toArray, List.set_cons_succ, List.set_cons_zero, r30, r31, r29]
        clear r30 r31 r29
        go_wp2_with fail
        exact ⟨rfl, _, rfl, HTT.out _ _ (rfl) (Only.refl _ _)⟩
      · intro x wx ox hN TT HTT
        have r32 : x 14 = (.pointer (some ⟨g, o + i * 4, none⟩)) := hN.1 rfl
        have r29 : x 11 = (.bool false) := hN.2.1 rfl
        clear hN
        unfold StepTo
        simp only [putAll, Act.put, List.setIfInBounds_toArray, List.set_cons_succ, List.set_cons_zero, r32, r29]
        clear r32 r29
        go_wp2_with fail
        exact ⟨rfl, _, rfl, HTT.out _ _ (rfl) (Only.refl _ _)⟩
      · intro x wx ox hN TT HTT
        have r33 : x 15 = (.pointer (some ⟨g, o + i * 4 + 1, none⟩)) := hN.1 rfl
        have r29 : x 11 = (.bool false) := hN.2.1 rfl
        clear hN
        unfold StepTo
        simp only [putAll, Act.put, List.setIfInBounds_toArray, List.set_cons_succ, List.set_cons_zero, r33, r29]
        clear r33 r29
        obtain ⟨m1, m2, m3, m4, m5, m6, m7, m8⟩ := HX.out wx ox
        go_wp2_with fail
        exact ⟨rfl, _, rfl, HTT.out _ _ (rfl) (Only.refl _ _)⟩
      · intro x wx ox hN TT HTT
        have r29 : x 11 = (.bool false) := hN.1 rfl
        clear hN
        unfold StepTo
        simp only [putAll, Act.put, List.setIfInBounds_toArray, List.set_cons_succ, List.set_cons_zero, r29]
        clear r29
        go_wp2_with fail
        exact ⟨rfl, _, rfl, HTT.out _ _ (rfl) (Only.refl _ _)⟩
      · intro x wx ox hN TT HTT
        have r29 : x 11 = (.bool false) := hN.1 rfl
        clear hN
        unfold StepTo
        simp only [putAll, Act.put, List.setIfInBounds_toArray, List.set_cons_succ, List.set_cons_zero, r29]
        clear r29
        go_wp2_with fail
        exact ⟨rfl, _, rfl, HTT.out _ _ (rfl) (Only.refl _ _)⟩
      · intro x wx ox hN TT HTT
        have r35 : x 17 = (.slice (some ⟨g', o', none⟩) L c') := hN.1 rfl
        have r36 : x 18 = (.int .i64 (i : Int)) := hN.2.1 rfl
        have r29 : x 11 = (.bool false) := hN.2.2.1 rfl
        clear hN
        unfold StepTo
        simp only [putAll, Act.put, List.setIfInBounds_toArray, List.set_cons_succ, List.set_cons_zero, r35, r36, r29]
        clear r35 r36 r29
        go_wp2_with fail
        exact ⟨rfl, _, rfl, HTT.out _ _ (rfl) (Only.refl _ _)⟩
      · intro x wx ox hN TT HTT
        have r37 : x 19 = (.pointer (some ⟨g', o' + i * 4, none⟩)) := hN.1 rfl
        have r29 : x 11 = (.bool false) := hN.2.1 rfl
        clear hN
        unfold StepTo
        simp only [putAll, Act.put, List.setIfInBounds_toArray, List.set_cons_succ, List.set_cons_zero, r37, r29]
        clear r37 r29
        go_wp2_with fail
        exact ⟨rfl, _, rfl, HTT.out _ _ (rfl) (Only.refl _ _)⟩
      · intro x wx ox hN TT HTT
        have r38 : x 20 = (.pointer (some ⟨g', o' + i * 4 + 1, none⟩)) := hN.1 rfl
        have r29 : x 11 = (.bool false) := hN.2.1 rfl
        clear hN
        unfold StepTo
        simp only [putAll, Act.put, List.setIfInBounds_toArray, List.set_cons_succ, List.set_cons_zero, r38, r29]
        clear r38 r29
        obtain ⟨m1, m2, m3, m4, m5, m6, m7, m8⟩ := HX.out wx ox
        go_wp2_with fail
        exact ⟨rfl, _, rfl, HTT.out _ _ (rfl) (Only.refl _ _)⟩
      · intro x wx ox hN TT HTT
        have r34 : x 16 = (.string ⟨nm.toArray⟩) := hN.1 rfl
        have r39 : x 21 = (.string ⟨nm.toArray⟩) := hN.2.1 rfl
        have r29 : x 11 = (.bool false) := hN.2.2.1 rfl
        clear hN
        unfold StepTo
        simp only [putAll, Act.put, List.setIfInBounds_toArray, List.set_cons_succ, List.set_cons_zero, r34, r39, r29]
        clear r34 r39 r29
        go_wp2_with fail
        exact ⟨rfl, _, rfl, HTT.out _ _ (rfl) (Only.refl _ _)⟩
      · intro x wx ox hN TT HTT
        have r29 : x 11 = (.bool false) := hN.1 rfl
        have r40 : x 22 = (.bool false) := hN.2.1 rfl
        clear hN
        unfold StepTo
        simp only [putAll, Act.put, List.setIfInBounds_toArray, List.set_cons_succ, List.set_cons_zero, r29, r40]
        clear r29 r40
        go_wp2_with fail
        exact ⟨rfl, _, rfl, HTT.out _ _ (rfl) (Only.refl _ _)⟩
      · intro x wx ox hN TT HTT
        have r41 : x 23 = (.bool false) := hN.1 rfl
        have r29 : x 11 = (.bool false) := hN.2.1 rfl
        clear hN
        unfold StepTo
        simp only [putAll, Act.put, List.setIfInBounds_toArray, List.set_cons_succ, List.set_cons_zero, r41, r29]
        clear r41 r29
        go_wp2_with fail
        exact ⟨rfl, _, rfl, HTT.out _ _ (rfl) (Only.refl _ _)⟩
      · intro x wx ox hN TT HTT
        have r42 : x 24 = (.bool false) := hN.1 rfl
        clear hN
        unfold StepTo
        simp only [putAll, Act.put, List.setIfInBounds_toArray, List.set_cons_succ, List.set_cons_zero, r42]
        clear r42
        go_wp2_with fail
        exact ⟨rfl, _, rfl, HTT.out _ _ (rfl) (Only.refl _ _)⟩
      · intro x wx ox hN TT HTT
        have r42 : x 24 = (.bool false) := hN.1 rfl
        clear hN
        unfold StepTo
        simp only [putAll, Act.put, List.setIfInBounds_toArray, List.set_cons_succ, List.set_cons_zero, r42]
        clear r42
        go_wp2_with fail
        exact ⟨rfl, _, rfl, HTT.out _ _ (rfl) (Only.refl _ _)⟩
      · intro x wx ox hN TT HTT
        have r43 : x 25 = (.slice (some ⟨g, o, none⟩) L c) := hN.1 rfl
        have r44 : x 26 = (.int .i64 (i : Int)) := hN.2.1 rfl
        have r42 : x 24 = (.bool false) := hN.2.2.1 rfl
        clear hN
        unfold StepTo
        simp only [putAll, Act.put, List.setIfInBounds_toArray, List.set_cons_succ, List.set_cons_zero, r43, r44, r42]
        clear r43 r44 r42
        go_wp2_with fail
        exact ⟨rfl, _, rfl, HTT.out _ _ (rfl) (Only.refl _ _)⟩
      · intro x wx ox hN TT HTT
        have r45 : x 27 = (.pointer (some ⟨g, o + i * 4, none⟩)) := hN.1 rfl
        have r42 : x 24 = (.bool false) := hN.2.1 rfl
        clear hN
        unfold StepTo
        simp only [putAll, Act.put, List.setIfInBounds_toArray, List.set_cons_succ, List.set_cons_zero, r45, r42]
        clear r45 r42
        go_wp2_with fail
        exact ⟨rfl, _, rfl, HTT.out _ _ (rfl) (Only.refl _ _)⟩
      · intro x wx ox hN TT HTT
        have r46 : x 28 = (.pointer (some ⟨g, o + i * 4 + 3, none⟩)) := hN.1 rfl
        have r42 : x 24 = (.bool false) := hN.2.1 rfl
        clear hN
        unfold StepTo
        simp only [putAll, Act.put, List.setIfInBounds_toArray, List.set_cons_succ, List.set_cons_zero, r46, r42]
        clear r46 r42
        obtain ⟨m1, m2, m3, m4, m5, m6, m7, m8⟩ := HX.out wx ox
        go_wp2_with fail
        exact ⟨rfl, _, rfl, HTT.out _ _ (rfl) (Only.refl _ _)⟩
      · intro x wx ox hN TT HTT
        have r47 : x 29 = (.slice an LN cn) := hN.1 rfl
        have r42 : x 24 = (.bool false) := hN.2.1 rfl
        clear hN
        unfold StepTo
        simp only [putAll, Act.put, List.setIfInBounds_toArray, List.set_cons_succ, List.set_cons_zero, r47, r42]
        clear r47 r42
        go_wp2_with fail
        exact ⟨rfl, _, rfl, HTT.out _ _ (rfl) (Only.refl _ _)⟩
      · intro x wx ox hN TT HTT
        have r42 : x 24 = (.bool false) := hN.1 rfl
        clear hN
        unfold StepTo
        simp only [putAll, Act.put, List.setIfInBounds_toArray, List.set_cons_succ, List.set_cons_zero, r42]
        clear r42
        go_wp2_with fail
        exact ⟨rfl, _, rfl, HTT.out _ _ (rfl) (Only.refl _ _)⟩
      · intro x wx ox hN TT HTT
        have r42 : x 24 = (.bool false) := hN.1 rfl
        clear hN
        unfold StepTo
        simp only [putAll, Act.put, List.setIfInBounds_toArray, List.set_cons_succ, List.set_cons_zero, r42]
        clear r42
        go_wp2_with fail
        exact ⟨rfl, _, rfl, HTT.out _ _ (rfl) (Only.refl _ _)⟩
      · intro x wx ox hN TT HTT
        have r49 : x 31 = (.slice (some ⟨g', o', none⟩) L c') := hN.1 rfl
        have r50 : x 32 = (.int .i64 (i : Int)) := hN.2.1 rfl
        have r42 : x 24 = (.bool false) := hN.2.2.1 rfl
        clear hN
        unfold StepTo
        simp only [putAll, Act.put, List.setIfInBounds_toArray, List.set_cons_succ, List.set_cons_zero, r49, r50, r42]
        clear r49 r50 r42
        go_wp2_with fail
        exact ⟨rfl, _, rfl, HTT.out _ _ (rfl) (Only.refl _ _)⟩
      · intro x wx ox hN TT HTT
        have r51 : x 33 = (.pointer (some ⟨g', o' + i * 4, none⟩)) := hN.1 rfl
        have r42 : x 24 = (.bool false) := hN.2.1 rfl
        clear hN
        unfold StepTo
        simp only [putAll, Act.put, List.setIfInBounds_toArray, List.set_cons_succ, List.set_cons_zero, r51, r42]
        clear r51 r42
        go_wp2_with fail
        exact ⟨rfl, _, rfl, HTT.out _ _ (rfl) (Only.refl _ _)⟩
      · intro x wx ox hN TT HTT
        have r52 : x 34 = (.pointer (some ⟨g', o' + i * 4 + 3, none⟩)) := hN.1 rfl
        have r42 : x 24 = (.bool false) := hN.2.1 rfl
        clear hN
        unfold StepTo
        simp only [putAll, Act.put, List.setIfInBounds_toArray, List.set_cons_succ, List.set_cons_zero, r52, r42]
        clear r52 r42
        obtain ⟨m1, m2, m3, m4, m5, m6, m7, m8⟩ := HX.out wx ox
        go_wp2_with fail
        exact ⟨rfl, _, rfl, HTT.out _ _ (rfl) (Only.refl _ _)⟩
      · intro x wx ox hN TT HTT
        have r53 : x 35 = (.slice an' LN cn') := hN.1 rfl
        have r42 : x 24 = (.bool false) := hN.2.1 rfl
        clear hN
        unfold StepTo
        simp only [putAll, Act.put, List.setIfInBounds_toArray, List.set_cons_succ, List.set_cons_zero, r53, r42]
        clear r53 r42
        go_wp2_with fail
        exact ⟨rfl, _, rfl, HTT.out _ _ (rfl) (Only.refl _ _)⟩
      · intro x wx ox hN TT HTT
        have r48 : x 30 = (.int .i64 (LN : Int)) := hN.1 rfl
        have r54 : x 36 = (.int .i64 (LN : Int)) := hN.2.1 rfl
        have r42 : x 24 = (.bool false) := hN.2.2.1 rfl
        clear hN
        unfold StepTo
        simp only [putAll, Act.put, List.setIfInBounds_toArray, List.set_cons_succ, List.set_cons_zero, r48, r54, r42]
        clear r48 r54 r42
        go_wp2_with fail
        exact ⟨rfl, _, rfl, HTT.out _ _ (rfl) (Only.refl _ _)⟩
      · intro x wx ox hN TT HTT
        have r42 : x 24 = (.bool false) := hN.1 rfl
        have r55 : x 37 = (.bool false) := hN.2.1 rfl
        clear hN
        unfold StepTo
        simp only [putAll, Act.put, List.setIfInBounds_toArray, List.set_cons_succ, List.set_cons_zero, r42, r55]
        clear r42 r55
        go_wp2_with fail
        exact ⟨rfl, _, rfl, HTT.out _ _ (rfl) (Only.refl _ _)⟩
      · intro x wx ox hN TT HTT
        have r56 : x 38 = (.bool false) := hN.1 rfl
        have r42 : x 24 = (.bool false) := hN.2.1 rfl
        clear hN
        unfold StepTo
        simp only [putAll, Act.put, List.setIfInBounds_toArray, List.set_cons_succ, List.set_cons_zero, r56, r42]
        clear r56 r42
        go_wp2_with fail
        exact ⟨rfl, _, rfl, HTT.out _ _ (rfl) (Only.refl _ _)⟩
      · intro x wx ox hN TT HTT
        have r57 : x 39 = (.bool false) := hN.1 rfl
        clear hN
        unfold StepTo
        simp only [putAll, Act.put, List.setIfInBounds_toArray, List.set_cons_succ, List.set_cons_zero, r57]
        clear r57
        go_wp2_with fail
        exact ⟨rfl, _, rfl, HTT.out _ _ (rfl) (Only.refl _ _)⟩
      · intro x wx ox hN TT HTT
        have r57 : x 39 = (.bool false) := hN.1 rfl
        clear hN
        unfold StepTo
        simp only [putAll, Act.put, List.setIfInBounds_toArray, List.set_cons_succ, List.set_cons_zero, r57]
        clear r57
        go_wp2_with fail
        exact ⟨rfl, _, rfl, HTT.out _ _ (rfl) (Only.refl _ _)⟩
      · intro x wx ox hN TT HTT
        have r58 : x 40 = (.slice (some ⟨g, o, none⟩) L c) := hN.1 rfl
        have r59 : x 41 = (.int .i64 (i : Int)) := hN.2.1 rfl
        have r57 : x 39 = (.bool false) := hN.2.2.1 rfl
        clear hN
        unfold StepTo
        simp only [putAll, Act.put, List.setIfInBounds_toArray, List.set_cons_succ, List.set_cons_zero, r58, r59, r57]
        clear r58 r59 r57
        go_wp2_with fail
        exact ⟨rfl, _, rfl, HTT.out _ _ (rfl) (Only.refl _ _)⟩
      · intro x wx ox hN TT HTT
        have r60 : x 42 = (.pointer (some ⟨g, o + i * 4, none⟩)) := hN.1 rfl
        have r57 : x 39 = (.bool false) := hN.2.1 rfl
        clear hN
        unfold StepTo
        simp only [putAll, Act.put, List.setIfInBounds_toArray, List.set_cons_succ, List.set_cons_zero, r60, r57]
        clear r60 r57
        go_wp2_with fail
        exact ⟨rfl, _, rfl, HTT.out _ _ (rfl) (Only.refl _ _)⟩
      · intro x wx ox hN TT HTT
        have r61 : x 43 = (.pointer (some ⟨g, o + i * 4 + 2, none⟩)) := hN.1 rfl
        have r57 : x 39 = (.bool false) := hN.2.1 rfl
        clear hN
        unfold StepTo
        simp only [putAll, Act.put, List.setIfInBounds_toArray, List.set_cons_succ, List.set_cons_zero, r61, r57]
        clear r61 r57
        obtain ⟨m1, m2, m3, m4, m5, m6, m7, m8⟩ := HX.out wx ox
        go_wp2_with fail
        exact ⟨rfl, _, rfl, HTT.out _ _ (rfl) (Only.refl _ _)⟩
      · intro x wx ox hN TT HTT
        have r57 : x 39 = (.bool false) := hN.1 rfl
        clear hN
        unfold StepTo
        simp only [putAll, Act.put, List.setIfInBounds_toArray, List.set_cons_succ, List.set_cons_zero, r57]
        clear r57
        go_wp2_with fail
        exact ⟨rfl, _, rfl, HTT.out _ _ (rfl) (Only.refl _ _)⟩
      · intro x wx ox hN TT HTT
        have r57 : x 39 = (.bool false) := hN.1 rfl
        clear hN
        unfold StepTo
        simp only [putAll, Act.put, List.setIfInBounds_toArray, List.set_cons_succ, List.set_cons_zero, r57]
        clear r57
        go_wp2_with fail
        exact ⟨rfl, _, rfl, HTT.out _ _ (rfl) (Only.refl _ _)⟩
      · intro x wx ox hN TT HTT
        have r63 : x 45 = (.slice (some ⟨g', o', none⟩) L c') := hN.1 rfl
        have r64 : x 46 = (.int .i64 (i : Int)) := hN.2.1 rfl
        have r57 : x 39 = (.bool false) := hN.2.2.1 rfl
        clear hN
        unfold StepTo
        simp only [putAll, Act.put, List.setIfInBounds_toArray, List.set_cons_succ, List.set_cons_zero, r63, r64, r57]
        clear r63 r64 r57
        go_wp2_with fail
        exact ⟨rfl, _, rfl, HTT.out _ _ (rfl) (Only.refl _ _)⟩
      · intro x wx ox hN TT HTT
        have r65 : x 47 = (.pointer (some ⟨g', o' + i * 4, none⟩)) := hN.1 rfl
        have r57 : x 39 = (.bool false) := hN.2.1 rfl
        clear hN
        unfold StepTo
        simp only [putAll, Act.put, List.setIfInBounds_toArray, List.set_cons_succ, List.set_cons_zero, r65, r57]
        clear r65 r57
        go_wp2_with fail
        exact ⟨rfl, _, rfl, HTT.out _ _ (rfl) (Only.refl _ _)⟩
      · intro x wx ox hN TT HTT
        have r66 : x 48 = (.pointer (some ⟨g', o' + i * 4 + 2, none⟩)) := hN.1 rfl
        have r57 : x 39 = (.bool false) := hN.2.1 rfl
        clear hN
        unfold StepTo
        simp only [putAll, Act.put, List.setIfInBounds_toArray, List.set_cons_succ, List.set_cons_zero, r66, r57]
        clear r66 r57
        obtain ⟨m1, m2, m3, m4, m5, m6, m7, m8⟩ := HX.out wx ox
        go_wp2_with fail
        exact ⟨rfl, _, rfl, HTT.out _ _ (rfl) (Only.refl _ _)⟩
      · intro x wx ox hN TT HTT
        have r62 : x 44 = (.slice af LF cf) := hN.1 rfl
        have r67 : x 49 = (.slice af' LF cf') := hN.2.1 rfl
        have r57 : x 39 = (.bool false) := hN.2.2.1 rfl
        clear hN
        unfold StepTo
        simp only [putAll, Act.put, List.setIfInBounds_toArray, List.set_cons_succ, List.set_cons_zero, r62, r67, r57]
        clear r62 r67 r57
        have ht := HREC.out wx ox
        have HT := Lib.hid ht; clear ht
        go_wp2_with fail
        refine HT.out.mono ?_
        rintro e w6 ⟨rfl, o6⟩
        have O6 := Lib.hid o6; clear o6
        go_wp2_with fail
        exact ⟨rfl, _, rfl, HTT.out _ _ (rfl) (O6.out)⟩
      · intro x wx ox hN TT HTT
        have r68 : x 50 = (.bool true) := hN.1 rfl
        have r57 : x 39 = (.bool false) := hN.2.1 rfl
        clear hN
        unfold StepTo
        simp only [putAll, Act.put, List.setIfInBounds_toArray, List.set_cons_succ, List.set_cons_zero, r68, r57]
        clear r68 r57
        go_wp2_with fail
        exact ⟨rfl, _, rfl, HTT.out _ _ (rfl) (Only.refl _ _)⟩
      intro xz wxz oxz hN
      have r18 : xz 0 = (.slice (some ⟨g, o, none⟩) L c) := hN.1
      have r19 : xz 1 = (.int .i64 (i : Int)) := hN.2.1
      have r20 : xz 2 = (.pointer (some ⟨g, o + i * 4, none⟩)) := hN.2.2.1
      have r21 : xz 3 = (.pointer (some ⟨g, o + i * 4, none⟩)) := hN.2.2.2.1
      have r22 : xz 4 = (.int .u8 (kk : Int)) := hN.2.2.2.2.1
      have r23 : xz 5 = (.slice (some ⟨g', o', none⟩) L c') := hN.2.2.2.2.2.1
      have r24 : xz 6 = (.int .i64 (i : Int)) := hN.2.2.2.2.2.2.1
      have r25 : xz 7 = (.pointer (some ⟨g', o' + i * 4, none⟩)) := hN.2.2.2.2.2.2.2.1
      have r26 : xz 8 = (.pointer (some ⟨g', o' + i * 4, none⟩)) := hN.2.2.2.2.2.2.2.2.1
      have r27 : xz 9 = (.int .u8 (kk : Int)) := hN.2.2.2.2.2.2.2.2.2.1
      have r28 : xz 10 = (.bool false) := hN.2.2.2.2.2.2.2.2.2.2.1
      have r29 : xz 11 = (.bool false) := hN.2.2.2.2.2.2.2.2.2.2.2.1
      have r30 : xz 12 = (.slice (some ⟨g, o, none⟩) L c) := hN.2.2.2.2.2.2.2.2.2.2.2.2.1
      have r31 : xz 13 = (.int .i64 (i : Int)) := hN.2.2.2.2.2.2.2.2.2.2.2.2.2.1
      have r32 : xz 14 = (.pointer (some ⟨g, o + i * 4, none⟩)) := hN.2.2.2.2.2.2.2.2.2.2.2.2.2.2.1
      have r33 : xz 15 = (.pointer (some ⟨g, o + i * 4 + 1, none⟩)) := hN.2.2.2.2.2.2.2.2.2.2.2.2.2.2.2.1
      have r34 : xz 16 = (.string ⟨nm.toArray⟩) := hN.2.2.2.2.2.2.2.2.2.2.2.2.2.2.2.2.1
      have r35 : xz 17 = (.slice (some ⟨g', o', none⟩) L c') := hN.2.2.2.2.2.2.2.2.2.2.2.2.2.2.2.2.2.1
      have r36 : xz 18 = (.int .i64 (i : Int)) := hN.2.2.2.2.2.2.2.2.2.2.2.2.2.2.2.2.2.2.1
      have r37 : xz 19 = (.pointer (some ⟨g', o' + i * 4, none⟩)) := hN.2.2.2.2.2.2.2.2.2.2.2.2.2.2.2.2.2.2.2.1
      have r38 : xz 20 = (.pointer (some ⟨g', o' + i * 4 + 1, none⟩)) := hN.2.2.2.2.2.2.2.2.2.2.2.2.2.2.2.2.2.2.2.2.1
      have r39 : xz 21 = (.string ⟨nm.toArray⟩) := hN.2.2.2.2.2.2.2.2.2.2.2.2.2.2.2.2.2.2.2.2.2.1
      have r40 : xz 22 = (.bool false) := hN.2.2.2.2.2.2.2.2.2.2.2.2.2.2.2.2.2.2.2.2.2.2.1
      have r41 : xz 23 = (.bool false) := hN.2.2.2.2.2.2.2.2.2.2.2.2.2.2.2.2.2.2.2.2.2.2.2.1
      have r42 : xz 24 = (.bool false) := hN.2.2.2.2.2.2.2.2.2.2.2.2.2.2.2.2.2.2.2.2.2.2.2.2.1
      have r43 : xz 25 = (.slice (some ⟨g, o, none⟩) L c) := hN.2.2.2.2.2.2.2.2.2.2.2.2.2.2.2.2.2.2.2.2.2.2.2.2.2.1
      have r44 : xz 26 = (.int .i64 (i : Int)) := hN.2.2.2.2.2.2.2.2.2.2.2.2.2.2.2.2.2.2.2.2.2.2.2.2.2.2.1
      have r45 : xz 27 = (.pointer (some ⟨g, o + i * 4, none⟩)) := hN.2.2.2.2.2.2.2.2.2.2.2.2.2.2.2.2.2.2.2.2.2.2.2.2.2.2.2.1
      have r46 : xz 28 = (.pointer (some ⟨g, o + i * 4 + 3, none⟩)) := hN.2.2.2.2.2.2.2.2.2.2.2.2.2.2.2.2.2.2.2.2.2.2.2.2.2.2.2.2.1
      have r47 : xz 29 = (.slice an LN cn) := hN.2.2.2.2.2.2.2.2.2.2.2.2.2.2.2.2.2.2.2.2.2.2.2.2.2.2.2.2.2.1
      have r48 : xz 30 = (.int .i64 (LN : Int)) := hN.2.2.2.2.2.2.2.2.2.2.2.2.2.2.2.2.2.2.2.2.2.2.2.2.2.2.2.2.2.2.1
      have r49 : xz 31 = (.slice (some ⟨g', o', none⟩) L c') := hN.2.2.2.2.2.2.2.2.2.2.2.2.2.2.2.2.2.2.2.2.2.2.2.2.2.2.2.2.2.2.2.1
      have r50 : xz 32 = (.int .i64 (i : Int)) := hN.2.2.2.2.2.2.2.2.2.2.2.2.2.2.2.2.2.2.2.2.2.2.2.2.2.2.2.2.2.2.2.2.1
      have r51 : xz 33 = (.pointer (some ⟨g', o' + i * 4, none⟩)) := hN.2.2.2.2.2.2.2.2.2.2.2.2.2.2.2.2.2.2.2.2.2.2.2.2.2.2.2.2.2.2.2.2.2.1
      have r52 : xz 34 = (.pointer (some ⟨g', o' + i * 4 + 3, none⟩)) := hN.2.2.2.2.2.2.2.2.2.2.2.2.2.2.2.2.2.2.2.2.2.2.2.2.2.2.2.2.2.2.2.2.2.2.1
      have r53 : xz 35 = (.slice an' LN cn') := hN.2.2.2.2.2.2.2.2.2.2.2.2.2.2.2.2.2.2.2.2.2.2.2.2.2.2.2.2.2.2.2.2.2.2.2.1
      have r54 : xz 36 = (.int .i64 (LN : Int)) := hN.2.2.2.2.2.2.2.2.2.2.2.2.2.2.2.2.2.2.2.2.2.2.2.2.2.2.2.2.2.2.2.2.2.2.2.2.1
      have r55 : xz 37 = (.bool false) := hN.2.2.2.2.2.2.2.2.2.2.2.2.2.2.2.2.2.2.2.2.2.2.2.2.2.2.2.2.2.2.2.2.2.2.2.2.2.1
      have r56 : xz 38 = (.bool false) := hN.2.2.2.2.2.2.2.2.2.2.2.2.2.2.2.2.2.2.2.2.2.2.2.2.2.2.2.2.2.2.2.2.2.2.2.2.2.2.1
      have r57 : xz 39 = (.bool false) := hN.2.2.2.2.2.2.2.2.2.2.2.2.2.2.2.2.2.2.2.2.2.2.2.2.2.2.2.2.2.2.2.2.2.2.2.2.2.2.2.1
      have r58 : xz 40 = (.slice (some ⟨g, o, none⟩) L c) := hN.2.2.2.2.2.2.2.2.2.2.2.2.2.2.2.2.2.2.2.2.2.2.2.2.2.2.2.2.2.2.2.2.2.2.2.2.2.2.2.2.1
      have r59 : xz 41 = (.int .i64 (i : Int)) := hN.2.2.2.2.2.2.2.2.2.2.2.2.2.2.2.2.2.2.2.2.2.2.2.2.2.2.2.2.2.2.2.2.2.2.2.2.2.2.2.2.2.1
      have r60 : xz 42 = (.pointer (some ⟨g, o + i * 4, none⟩)) := hN.2.2.2.2.2.2.2.2.2.2.2.2.2.2.2.2.2.2.2.2.2.2.2.2.2.2.2.2.2.2.2.2.2.2.2.2.2.2.2.2.2.2.1
      have r61 : xz 43 = (.pointer (some ⟨g, o + i * 4 + 2, none⟩)) := hN.2.2.2.2.2.2.2.2.2.2.2.2.2.2.2.2.2.2.2.2.2.2.2.2.2.2.2.2.2.2.2.2.2.2.2.2.2.2.2.2.2.2.2.1
      have r62 : xz 44 = (.slice af LF cf) := hN.2.2.2.2.2.2.2.2.2.2.2.2.2.2.2.2.2.2.2.2.2.2.2.2.2.2.2.2.2.2.2.2.2.2.2.2.2.2.2.2.2.2.2.2.1
      have r63 : xz 45 = (.slice (some ⟨g', o', none⟩) L c') := hN.2.2.2.2.2.2.2.2.2.2.2.2.2.2.2.2.2.2.2.2.2.2.2.2.2.2.2.2.2.2.2.2.2.2.2.2.2.2.2.2.2.2.2.2.2.1
      have r64 : xz 46 = (.int .i64 (i : Int)) := hN.2.2.2.2.2.2.2.2.2.2.2.2.2.2.2.2.2.2.2.2.2.2.2.2.2.2.2.2.2.2.2.2.2.2.2.2.2.2.2.2.2.2.2.2.2.2.1
      have r65 : xz 47 = (.pointer (some ⟨g', o' + i * 4, none⟩)) := hN.2.2.2.2.2.2.2.2.2.2.2.2.2.2.2.2.2.2.2.2.2.2.2.2.2.2.2.2.2.2.2.2.2.2.2.2.2.2.2.2.2.2.2.2.2.2.2.1
      have r66 : xz 48 = (.pointer (some ⟨g', o' + i * 4 + 2, none⟩)) := hN.2.2.2.2.2.2.2.2.2.2.2.2.2.2.2.2.2.2.2.2.2.2.2.2.2.2.2.2.2.2.2.2.2.2.2.2.2.2.2.2.2.2.2.2.2.2.2.2.1
      have r67 : xz 49 = (.slice af' LF cf') := hN.2.2.2.2.2.2.2.2.2.2.2.2.2.2.2.2.2.2.2.2.2.2.2.2.2.2.2.2.2.2.2.2.2.2.2.2.2.2.2.2.2.2.2.2.2.2.2.2.2.1
      have r68 : xz 50 = (.bool true) := hN.2.2.2.2.2.2.2.2.2.2.2.2.2.2.2.2.2.2.2.2.2.2.2.2.2.2.2.2.2.2.2.2.2.2.2.2.2.2.2.2.2.2.2.2.2.2.2.2.2.2.1
      have r69 : xz 51 = (.bool false) := hN.2.2.2.2.2.2.2.2.2.2.2.2.2.2.2.2.2.2.2.2.2.2.2.2.2.2.2.2.2.2.2.2.2.2.2.2.2.2.2.2.2.2.2.2.2.2.2.2.2.2.2.1
      clear hN
      simp only [putAll, Act.put, List.setIfInBounds_toArray, List.set_cons_succ, List.set_cons_zero, r18, r19, r20, r21, r22, r23, r24, r25, r26, r27, r28, r29, r30, r31, r32, r33, r34, r35, r36, r37, r38, r39, r40, r41, r42, r43, r44, r45, r46, r47, r48, r49, r50, r51, r52, r53, r54, r55, r56, r57, r58, r59, r60, r61, r62, r63, r64, r65, r66, r67, r68, r69]
      clear r18 r19 r20 r21 r22 r23 r24 r25 r26 r27 r28 r29 r30 r31 r32 r33 r34 r35 r36 r37 r38 r39 r40 r41 r42 r43 r44 r45 r46 r47 r48 r49 r50 r51 r52 r53 r54 r55 r56 r57 r58 r59 r60 r61 r62 r63 r64 r65 r66 r67 r68 r69
      have OZ := Lib.hid (HO.out.trans ((Only.refl _ wr).drew.trans oxz)); clear oxz
      go_wp2_with fail
      go_loopw [6] (fun v w8 => ∃ j : Nat, v = .int .i64 (j : Int) ∧ j ≤ LN ∧ Hid (Only (fun _ => False) w w8)) (fun v _ => LN - (intOf v).toNat)
      case atStart => exact ⟨0, by simp, by omega, OZ⟩
      case round =>
        clear OZ
        obtain ⟨j, rfl, hj, HP⟩ := hrel
        obtain ⟨e3, f3⟩ := HE.out
        have e3 := keepc HP.out e3
        have f3 := keepc HP.out f3
        by_cases hltj : j < LN
        · have t4 : decide ((j : Int) < (LN : Int)) = true := by simpa using hltj
          have hj0 : (0 : Int) ≤ (j : Int) := by omega
          have hj1 : (j : Int) < (LN : Int) := by omega
          have hjl : j < ns.length := by rw [HLN.out]; exact hltj
          obtain ⟨gd, od, ys, rfl, -, p1, p2⟩ := HN.out j hjl
          obtain ⟨gd', od', ys', rfl, -, p1', p2'⟩ := HN'.out j hjl
          have := str_cell p2; subst this
          have := str_cell p2'; subst this
          have p1 := p1 0 _ rfl
          have p1' := p1' 0 _ rfl
          rw [Nat.mul_one, Nat.add_zero] at p1 p1'
          generalize ns[j] = s at *
          have HX := Lib.hid (fun (wx : World) (ox : Only (fun _ => False) wr.drew wx) => have o := (Only.refl _ wr).drew.trans ox; have ow := HP.out.trans o; And.intro (keepc o e3) (And.intro (keepc o f3) (And.intro (keepc ow p1) (keepc ow p1'))))
          clear p1 p1' p2 p2'
          go_upto_region 11 with (fail)
          clear e3 f3
          refine wp_region_steps 16 (by kernel_rfl) rfl (by kernel_rfl) [some 81, some 82, some 83, some 84, some 85, some 86, some 87, some 88, some 89, some 90, some 91, some 92, some 93, some 94, some 95, some 96] rfl rfl (fun _ => False) [(fun v _ => v = (.slice (some ⟨g, o, none⟩) L c)), (fun v _ => v = (.int .i64 (i : Int))), (fun v _ => v = (.pointer (some ⟨g, o + i * 4, none⟩))), (fun v _ => v = (.pointer (some ⟨g, o + i * 4 + 3, none⟩))), (fun v _ => v = (.slice (some ⟨gd, od, none⟩) LN cn)), (fun v _ => v = (.int .i64 (j : Int))), (fun v _ => v = (.pointer (some ⟨gd, od + j, none⟩))), (fun v _ => v = (.string ⟨s.toArray⟩)), (fun v _ => v = (.slice (some ⟨g', o', none⟩) L c')), (fun v _ => v = (.int .i64 (i : Int))), (fun v _ => v = (.pointer (some ⟨g', o' + i * 4, none⟩))), (fun v _ => v = (.pointer (some ⟨g', o' + i * 4 + 3, none⟩))), (fun v _ => v = (.slice (some ⟨gd', od', none⟩) LN cn')), (fun v _ => v = (.int .i64 (j : Int))), (fun v _ => v = (.pointer (some ⟨gd', od' + j, none⟩))), (fun v _ => v = (.string ⟨s.toArray⟩))] rfl ⟨?_, ?_, ?_, ?_, ?_, ?_, ?_, ?_, ?_, ?_, ?_, ?_, ?_, ?_, ?_, ?_, trivial⟩ _ rfl ⟨?_, ?_, ?_, ?_, ?_, ?_, ?_, ?_, ?_, ?_, ?_, ?_, ?_, ?_, ?_, ?_, trivial⟩ ?_
          · exact Stable.is _ _
          · exact Stable.is _ _
          · exact Stable.is _ _
          · exact Stable.is _ _
          · exact Stable.is _ _
          · exact Stable.is _ _
          · exact Stable.is _ _
          · exact Stable.is _ _
          · exact Stable.is _ _
          · exact Stable.is _ _
          · exact Stable.is _ _
          · exact Stable.is _ _
          · exact Stable.is _ _
          · exact Stable.is _ _
          · exact Stable.is _ _
          · exact Stable.is _ _
          · intro x wx ox hN TT HTT
            clear hN
            unfold StepTo
            simp only [putAll, Act.put, List.setIfInBounds_toArray, List.set_cons_succ, List.set_cons_zero]
            go_wp2_with fail
            exact ⟨rfl, _, rfl, HTT.out _ _ (rfl) (Only.refl _ _)⟩
          · intro x wx ox hN TT HTT
            clear hN
            unfold StepTo
            simp only [putAll, Act.put, List.setIfInBounds_toArray, List.set_cons_succ, List.set_cons_zero]
            go_wp2_with fail
            exact ⟨rfl, _, rfl, HTT.out _ _ (rfl) (Only.refl _ _)⟩
          · intro x wx ox hN TT HTT
            have r81 : x 0 = (.slice (some ⟨g, o, none⟩) L c) := hN.1 rfl
            have r82 : x 1 = (.int .i64 (i : Int)) := hN.2.1 rfl
            clear hN
            unfold StepTo
            simp only [putAll, Act.put, List.setIfInBounds_toArray, List.set_cons_succ, List.set_cons_zero, r81, r82]
            clear r81 r82
            go_wp2_with fail
            exact ⟨rfl, _, rfl, HTT.out _ _ (rfl) (Only.refl _ _)⟩
          · intro x wx ox hN TT HTT
            have r83 : x 2 = (.pointer (some ⟨g, o + i * 4, none⟩)) := hN.1 rfl
            clear hN
            unfold StepTo
            simp only [putAll, Act.put, List.setIfInBounds_toArray, List.set_cons_succ, List.set_cons_zero, r83]
            clear r83
            go_wp2_with fail
            exact ⟨rfl, _, rfl, HTT.out _ _ (rfl) (Only.refl _ _)⟩
          · intro x wx ox hN TT HTT
            have r84 : x 3 = (.pointer (some ⟨g, o + i * 4 + 3, none⟩)) := hN.1 rfl
            clear hN
            unfold StepTo
            simp only [putAll, Act.put, List.setIfInBounds_toArray, List.set_cons_succ, List.set_cons_zero, r84]
            clear r84
            obtain ⟨m1, m2, m3, m4⟩ := HX.out wx ox
            go_wp2_with fail
            exact ⟨rfl, _, rfl, HTT.out _ _ (rfl) (Only.refl _ _)⟩
          · intro x wx ox hN TT HTT
            clear hN
            unfold StepTo
            simp only [putAll, Act.put, List.setIfInBounds_toArray, List.set_cons_succ, List.set_cons_zero]
            go_wp2_with fail
            exact ⟨rfl, _, rfl, HTT.out _ _ (rfl) (Only.refl _ _)⟩
          · intro x wx ox hN TT HTT
            have r85 : x 4 = (.slice (some ⟨gd, od, none⟩) LN cn) := hN.1 rfl
            have r86 : x 5 = (.int .i64 (j : Int)) := hN.2.1 rfl
            clear hN
            unfold StepTo
            simp only [putAll, Act.put, List.setIfInBounds_toArray, List.set_cons_succ, List.set_cons_zero, r85, r86]
            clear r85 r86
            go_wp2_with fail
            exact ⟨rfl, _, rfl, HTT.out _ _ (rfl) (Only.refl _ _)⟩
          · intro x wx ox hN TT HTT
            have r87 : x 6 = (.pointer (some ⟨gd, od + j, none⟩)) := hN.1 rfl
            clear hN
            unfold StepTo
            simp only [putAll, Act.put, List.setIfInBounds_toArray, List.set_cons_succ, List.set_cons_zero, r87]
            clear r87
            obtain ⟨m1, m2, m3, m4⟩ := HX.out wx ox
            go_wp2_with fail
            exact ⟨rfl, _, rfl, HTT.out _ _ (rfl) (Only.refl _ _)⟩
          · intro x wx ox hN TT HTT
            clear hN
            unfold StepTo
            simp only [putAll, Act.put, List.setIfInBounds_toArray, List.set_cons_succ, List.set_cons_zero]
            go_wp2_with fail
            exact ⟨rfl, _, rfl, HTT.out _ _ (rfl) (Only.refl _ _)⟩
          · intro x wx ox hN TT HTT
            clear hN
            unfold StepTo
            simp only [putAll, Act.put, List.setIfInBounds_toArray, List.set_cons_succ, List.set_cons_zero]
            go_wp2_with fail
            exact ⟨rfl, _, rfl, HTT.out _ _ (rfl) (Only.refl _ _)⟩
          · intro x wx ox hN TT HTT
            have r89 : x 8 = (.slice (some ⟨g', o', none⟩) L c') := hN.1 rfl
            have r90 : x 9 = (.int .i64 (i : Int)) := hN.2.1 rfl
            clear hN
            unfold StepTo
            simp only [putAll, Act.put, List.setIfInBounds_toArray, List.set_cons_succ, List.set_cons_zero, r89, r90]
            clear r89 r90
            go_wp2_with fail
            exact ⟨rfl, _, rfl, HTT.out _ _ (rfl) (Only.refl _ _)⟩
          · intro x wx ox hN TT HTT
            have r91 : x 10 = (.pointer (some ⟨g', o' + i * 4, none⟩)) := hN.1 rfl
            clear hN
            unfold StepTo
            simp only [putAll, Act.put, List.setIfInBounds_toArray, List.set_cons_succ, List.set_cons_zero, r91]
            clear r91
            go_wp2_with fail
            exact ⟨rfl, _, rfl, HTT.out _ _ (rfl) (Only.refl _ _)⟩
          · intro x wx ox hN TT HTT
            have r92 : x 11 = (.pointer (some ⟨g', o' + i * 4 + 3, none⟩)) := hN.1 rfl
            clear hN
            unfold StepTo
            simp only [putAll, Act.put, List.setIfInBounds_toArray, List.set_cons_succ, List.set_cons_zero, r92]
            clear r92
            obtain ⟨m1, m2, m3, m4⟩ := HX.out wx ox
            go_wp2_with fail
            exact ⟨rfl, _, rfl, HTT.out _ _ (rfl) (Only.refl _ _)⟩
          · intro x wx ox hN TT HTT
            clear hN
            unfold StepTo
            simp only [putAll, Act.put, List.setIfInBounds_toArray, List.set_cons_succ, List.set_cons_zero]
            go_wp2_with fail
            exact ⟨rfl, _, rfl, HTT.out _ _ (rfl) (Only.refl _ _)⟩
          · intro x wx ox hN TT HTT
            have r93 : x 12 = (.slice (some ⟨gd', od', none⟩) LN cn') := hN.1 rfl
            have r94 : x 13 = (.int .i64 (j : Int)) := hN.2.1 rfl
            clear hN
            unfold StepTo
            simp only [putAll, Act.put, List.setIfInBounds_toArray, List.set_cons_succ, List.set_cons_zero, r93, r94]
            clear r93 r94
            go_wp2_with fail
            exact ⟨rfl, _, rfl, HTT.out _ _ (rfl) (Only.refl _ _)⟩
          · intro x wx ox hN TT HTT
            have r95 : x 14 = (.pointer (some ⟨gd', od' + j, none⟩)) := hN.1 rfl
            clear hN
            unfold StepTo
            simp only [putAll, Act.put, List.setIfInBounds_toArray, List.set_cons_succ, List.set_cons_zero, r95]
            clear r95
            obtain ⟨m1, m2, m3, m4⟩ := HX.out wx ox
            go_wp2_with fail
            exact ⟨rfl, _, rfl, HTT.out _ _ (rfl) (Only.refl _ _)⟩
          intro xz wxz oxz hN
          have r81 : xz 0 = (.slice (some ⟨g, o, none⟩) L c) := hN.1
          have r82 : xz 1 = (.int .i64 (i : Int)) := hN.2.1
          have r83 : xz 2 = (.pointer (some ⟨g, o + i * 4, none⟩)) := hN.2.2.1
          have r84 : xz 3 = (.pointer (some ⟨g, o + i * 4 + 3, none⟩)) := hN.2.2.2.1
          have r85 : xz 4 = (.slice (some ⟨gd, od, none⟩) LN cn) := hN.2.2.2.2.1
          have r86 : xz 5 = (.int .i64 (j : Int)) := hN.2.2.2.2.2.1
          have r87 : xz 6 = (.pointer (some ⟨gd, od + j, none⟩)) := hN.2.2.2.2.2.2.1
          have r88 : xz 7 = (.string ⟨s.toArray⟩) := hN.2.2.2.2.2.2.2.1
          have r89 : xz 8 = (.slice (some ⟨g', o', none⟩) L c') := hN.2.2.2.2.2.2.2.2.1
          have r90 : xz 9 = (.int .i64 (i : Int)) := hN.2.2.2.2.2.2.2.2.2.1
          have r91 : xz 10 = (.pointer (some ⟨g', o' + i * 4, none⟩)) := hN.2.2.2.2.2.2.2.2.2.2.1
          have r92 : xz 11 = (.pointer (some ⟨g', o' + i * 4 + 3, none⟩)) := hN.2.2.2.2.2.2.2.2.2.2.2.1
          have r93 : xz 12 = (.slice (some ⟨gd', od', none⟩) LN cn') := hN.2.2.2.2.2.2.2.2.2.2.2.2.1
          have r94 : xz 13 = (.int .i64 (j : Int)) := hN.2.2.2.2.2.2.2.2.2.2.2.2.2.1
          have r95 : xz 14 = (.pointer (some ⟨gd', od' + j, none⟩)) := hN.2.2.2.2.2.2.2.2.2.2.2.2.2.2.1
          have r96 : xz 15 = (.string ⟨s.toArray⟩) := hN.2.2.2.2.2.2.2.2.2.2.2.2.2.2.2.1
          clear hN
          simp only [putAll, Act.put, List.setIfInBounds_toArray, List.set_cons_succ, List.set_cons_zero, r81, r82, r83, r84, r85, r86, r87, r88, r89, r90, r91, r92, r93, r94, r95, r96]
          clear r81 r82 r83 r84 r85 r86 r87 r88 r89 r90 r91 r92 r93 r94 r95 r96
          have OZ := Lib.hid (HP.out.trans ((Only.refl _ wr).drew.trans oxz)); clear oxz
          go_wp2_with fail
          go_roundw
          case rel => exact ⟨j + 1, by simp [go_sem], by omega, OZ⟩
          case measure => simp [intOf]; omega
        · have hke : j = LN := by omega
          subst hke
          have t4 : decide ((j : Int) < (j : Int)) = false := by simp
          go_wp2_with fail
          clear e3 f3
          go_roundw
          case rel => exact ⟨i + 1, by simp, by omega, HP⟩
          case measure => simp [intOf]; omega
    · have hke : i = L := by omega
      subst hke
      have t3 : decide ((i : Int) < (i : Int)) = false := by simp
      go_wp2_with fail
      go_ret
      exact ⟨rfl, HO.out⟩
end Go.Proofs.YtgephneppgcnlaaGreatDoor
