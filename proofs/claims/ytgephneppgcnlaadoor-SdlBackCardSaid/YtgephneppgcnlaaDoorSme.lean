/- The document's Same, of declarations. -/
import Derived.Test.YtgephneppgcnlaaDoorSdf
import Derived.Test.YtgephneppgcnlaaDoorSmr
namespace Go.Proofs.YtgephneppgcnlaaDoor
open Go Go.RowKit
set_option linter.unusedVariables false
set_option linter.unusedSimpArgs false

theorem cells11_of {w : World} {g p : Nat} {x0 x1 x2 x3 x4 x5 x6 x7 x8 x9 x10 : Value} (h : ∀ j q, ([x0, x1, x2, x3, x4, x5, x6, x7, x8, x9, x10] : List Value)[j]? = some q → w.cell? ⟨g, p + j, none⟩ = some q) : w.cell? ⟨g, p, none⟩ = some x0 ∧ w.cell? ⟨g, p + 1, none⟩ = some x1 ∧ w.cell? ⟨g, p + 2, none⟩ = some x2 ∧ w.cell? ⟨g, p + 3, none⟩ = some x3 ∧ w.cell? ⟨g, p + 4, none⟩ = some x4 ∧ w.cell? ⟨g, p + 5, none⟩ = some x5 ∧ w.cell? ⟨g, p + 6, none⟩ = some x6 ∧ w.cell? ⟨g, p + 7, none⟩ = some x7 ∧ w.cell? ⟨g, p + 8, none⟩ = some x8 ∧ w.cell? ⟨g, p + 9, none⟩ = some x9 ∧ w.cell? ⟨g, p + 10, none⟩ = some x10 := ⟨h 0 _ rfl, h 1 _ rfl, h 2 _ rfl, h 3 _ rfl, h 4 _ rfl, h 5 _ rfl, h 6 _ rfl, h 7 _ rfl, h 8 _ rfl, h 9 _ rfl, h 10 _ rfl⟩
theorem cells4_in {w : World} {g p : Nat} {x0 x1 x2 x3 : Value} (h : ∀ j q, ([x0, x1, x2, x3] : List Value)[j]? = some q → w.cell? ⟨g, p + j, none⟩ = some q) : w.cell? ⟨g, p, none⟩ = some x0 ∧ w.cell? ⟨g, p + 1, none⟩ = some x1 ∧ w.cell? ⟨g, p + 2, none⟩ = some x2 ∧ w.cell? ⟨g, p + 3, none⟩ = some x3 := ⟨h 0 _ rfl, h 1 _ rfl, h 2 _ rfl, h 3 _ rfl⟩
theorem fdC_form {w : World} {G : Nat → Prop} {f : FD} {cs : List Value} (h : CellsAt w G (fdC f) cs) : ∃ (m0 : List UInt8) (g : Option Addr) (lg eg : Nat) (s1 : List UInt8) (a1 : Option Addr) (l1 e1 : Nat) (b1 h1 : Bool) (k : Nat) (n : Int) (s2 : List UInt8) (a2 : Option Addr) (l2 e2 : Nat) (a3 : Option Addr) (l3 e3 : Nat), cs.toArray = #[.string ⟨m0.toArray⟩, .slice g lg eg, .string ⟨s1.toArray⟩, .slice a1 l1 e1, .bool b1, .bool h1, .int .u8 (k : Int), .int .i64 n, .string ⟨s2.toArray⟩, .slice a2 l2 e2, .slice a3 l3 e3] := by
  obtain ⟨gv, ts, us, rfl, hg, ht, hu⟩ := fd_cells h
  obtain ⟨g, eg, rfl, -⟩ := rows_at hg
  obtain ⟨s1, a1, l1, e1, b1, rfl⟩ := trC_form2 ht
  obtain ⟨k, n, s2, a2, l2, e2, a3, l3, e3, rfl⟩ := valC_form2 hu
  exact ⟨_, _, _, _, _, _, _, _, _, _, _, _, _, _, _, _, _, _, _, rfl⟩
def SameFD (f : FD) : Prop := ∀ (G G' : Nat → Prop) (w : World) (cs ds : List Value), CellsAt w G (fdC f) cs → CellsAt w G' (fdC f) ds →
    Calls Tryd.prog 74 #[.agg cs.toArray, .agg ds.toArray] w (fun e w' => e = .returned (.bool true) ∧ Only (fun _ => False) w w')
def SameFDs (fs : List FD) : Prop := ∀ (G G' : Nat → Prop) (w : World) (v u : Value), CellAt w G (.row 11 (fs.map fdC)) v → CellAt w G' (.row 11 (fs.map fdC)) u →
    Calls Tryd.prog 40 #[v, u] w (fun e w' => e = .returned (.bool true) ∧ Only (fun _ => False) w w')
set_option maxRecDepth 100000 in
set_option maxHeartbeats 16000000 in
theorem sameFds_of (fs : List FD) (ih : ∀ f ∈ fs, SameFD f) : SameFDs fs := by
  intro G G' w v u h h'
  obtain ⟨a, c, rfl, k1, k2, k3⟩ := rows_at h
  obtain ⟨a', c', rfl, k1', k2', k3'⟩ := rows_at h'
  obtain ⟨L, hL⟩ : ∃ L, fs.length = L := ⟨_, rfl⟩
  rw [hL] at k1 k1' ⊢
  have HL := Lib.hid hL; have HK := Lib.hid k3; have HK' := Lib.hid k3'; have IH := Lib.hid ih
  clear hL k3 k3' h h' ih
  go_enter Tryd.func40, Tryd.ntmps40
  go_wp2_with fail
  go_loopw [5] (fun v wr => ∃ i : Nat, v = .int .i64 (i : Int) ∧ i ≤ L ∧ Hid (Only (fun _ => False) w wr)) (fun v _ => L - (intOf v).toNat)
  case atStart => exact ⟨0, by simp, by omega, Lib.hid (Only.refl _ _)⟩
  case round =>
    obtain ⟨i, rfl, hi, HO⟩ := hrel
    by_cases hlt : i < L
    · have t3 : decide ((i : Int) < (L : Int)) = true := by simpa using hlt
      have hi0 : (0 : Int) ≤ (i : Int) := by omega
      have hi1 : (i : Int) < (L : Int) := by omega
      have hil : i < fs.length := by rw [HL.out]; exact hlt
      obtain ⟨gg, o, xs, rfl, -, q1, q2⟩ := HK.out i hil
      obtain ⟨gg', o', xs', rfl, -, q1', q2'⟩ := HK'.out i hil
      have hrec := fun (wx : World) (ox : Only (fun _ => False) w wx) => IH.out _ (List.getElem_mem hil) G G' wx _ _ (CellsAt.only ox (fun _ _ h => h) _ _ q2) (CellsAt.only ox (fun _ _ h => h) _ _ q2')
      obtain ⟨m0, g, lg, eg, s1, a1, l1, e1, b1, h1, k, n, s2, a2, l2, e2, a3, l3, e3, he⟩ := fdC_form q2
      obtain ⟨m0', g', lg', eg', s1', a1', l1', e1', b1', h1', k', n', s2', a2', l2', e2', a3', l3', e3', he'⟩ := fdC_form q2'
      rw [he, he'] at hrec
      have hxs : xs = (#[.string ⟨m0.toArray⟩, .slice g lg eg, .string ⟨s1.toArray⟩, .slice a1 l1 e1, .bool b1, .bool h1, .int .u8 (k : Int), .int .i64 n, .string ⟨s2.toArray⟩, .slice a2 l2 e2, .slice a3 l3 e3] : Array Value).toList := by rw [← he]
      have hxs' : xs' = (#[.string ⟨m0'.toArray⟩, .slice g' lg' eg', .string ⟨s1'.toArray⟩, .slice a1' l1' e1', .bool b1', .bool h1', .int .u8 (k' : Int), .int .i64 n', .string ⟨s2'.toArray⟩, .slice a2' l2' e2', .slice a3' l3' e3'] : Array Value).toList := by rw [← he']
      rw [hxs] at q1; rw [hxs'] at q1'
      obtain ⟨e0_, e1_, e2_, e3_, e4_, e5_, e6_, e7_, e8_, e9_, e10_⟩ := cells11_of q1
      obtain ⟨f0, f1, f2, f3, f4, f5, f6, f7, f8, f9, f10⟩ := cells11_of q1'
      have HX := Lib.hid (fun (wx : World) (ox : Only (fun _ => False) wr.drew wx) => have ow := HO.out.trans ((Only.refl _ wr).drew.trans ox); And.intro (keepc ow e0_) (And.intro (keepc ow e1_) (And.intro (keepc ow e2_) (And.intro (keepc ow e3_) (And.intro (keepc ow e4_) (And.intro (keepc ow e5_) (And.intro (keepc ow e6_) (And.intro (keepc ow e7_) (And.intro (keepc ow e8_) (And.intro (keepc ow e9_) (And.intro (keepc ow e10_) (And.intro (keepc ow f0) (And.intro (keepc ow f1) (And.intro (keepc ow f2) (And.intro (keepc ow f3) (And.intro (keepc ow f4) (And.intro (keepc ow f5) (And.intro (keepc ow f6) (And.intro (keepc ow f7) (And.intro (keepc ow f8) (And.intro (keepc ow f9) (keepc ow f10))))))))))))))))))))))
      have HREC := Lib.hid (fun (wx : World) (ox : Only (fun _ => False) wr.drew wx) => hrec wx (HO.out.trans ((Only.refl _ wr).drew.trans ox)))
      clear hrec q1 q1' q2 q2' he he' hxs hxs' e0_ e1_ e2_ e3_ e4_ e5_ e6_ e7_ e8_ e9_ e10_ f0 f1 f2 f3 f4 f5 f6 f7 f8 f9 f10
      go_upto_region 6 with (fail)
      refine wp_region_steps 9 (by kernel_rfl) rfl (by kernel_rfl) [some 17, some 18, some 19, some 20, some 21, some 22, some 23, some 24, some 25] rfl rfl (fun _ => False) [(fun v _ => v = (.slice (some ⟨gg, o, none⟩) L c)), (fun v _ => v = (.int .i64 (i : Int))), (fun v _ => v = (.pointer (some ⟨gg, o + i * 11, none⟩))), (fun v _ => v = (.agg #[.string ⟨m0.toArray⟩, .slice g lg eg, .string ⟨s1.toArray⟩, .slice a1 l1 e1, .bool b1, .bool h1, .int .u8 (k : Int), .int .i64 n, .string ⟨s2.toArray⟩, .slice a2 l2 e2, .slice a3 l3 e3])), (fun v _ => v = (.slice (some ⟨gg', o', none⟩) L c')), (fun v _ => v = (.int .i64 (i : Int))), (fun v _ => v = (.pointer (some ⟨gg', o' + i * 11, none⟩))), (fun v _ => v = (.agg #[.string ⟨m0'.toArray⟩, .slice g' lg' eg', .string ⟨s1'.toArray⟩, .slice a1' l1' e1', .bool b1', .bool h1', .int .u8 (k' : Int), .int .i64 n', .string ⟨s2'.toArray⟩, .slice a2' l2' e2', .slice a3' l3' e3'])), (fun v _ => v = (.bool true))] rfl ⟨?_, ?_, ?_, ?_, ?_, ?_, ?_, ?_, ?_, trivial⟩ _ rfl ⟨?_, ?_, ?_, ?_, ?_, ?_, ?_, ?_, ?_, trivial⟩ ?_
      · exact Stable.is _ _
      · exact Stable.is _ _
      · exact Stable.is _ _
      · exact Stable.is _ _
      · exact Stable.is _ _
      · exact Stable.is _ _
      · exact Stable.is _ _
      · exact Stable.is _ _
      · exact Stable.is _ _
      · intro x wx ox hN TT HTT
        clear hN
        unfold StepTo
        simp only [putAll, Act.put, List.setIfInBounds_toArray, List.set_cons_succ, List.set_cons_zero]
        go_wp2_with fail
        exact ⟨rfl, _, rfl, HTT.out _ _ (rfl) (Only.refl _ _)⟩
      · intro x wx ox hN TT HTT
        clear hN
        unfold StepTo
        simp only [putAll, Act.put, List.setIfInBounds_toArray, List.set_cons_succ, List.set_cons_zero]
        go_wp2_with fail
        exact ⟨rfl, _, rfl, HTT.out _ _ (rfl) (Only.refl _ _)⟩
      · intro x wx ox hN TT HTT
        have r17 : x 0 = (.slice (some ⟨gg, o, none⟩) L c) := hN.1 rfl
        have r18 : x 1 = (.int .i64 (i : Int)) := hN.2.1 rfl
        clear hN
        unfold StepTo
        simp only [putAll, Act.put, List.setIfInBounds_toArray, List.set_cons_succ, List.set_cons_zero, r17, r18]
        clear r17 r18
        go_wp2_with fail
        exact ⟨rfl, _, rfl, HTT.out _ _ (rfl) (Only.refl _ _)⟩
      · intro x wx ox hN TT HTT
        have r19 : x 2 = (.pointer (some ⟨gg, o + i * 11, none⟩)) := hN.1 rfl
        clear hN
        unfold StepTo
        simp only [putAll, Act.put, List.setIfInBounds_toArray, List.set_cons_succ, List.set_cons_zero, r19]
        clear r19
        obtain ⟨m0_, m1_, m2_, m3_, m4_, m5_, m6_, m7_, m8_, m9_, m10_, m11_, m12_, m13_, m14_, m15_, m16_, m17_, m18_, m19_, m20_, m21_⟩ := HX.out wx ox
        go_wp2_with fail
        exact ⟨rfl, _, rfl, HTT.out _ _ (rfl) (Only.refl _ _)⟩
      · intro x wx ox hN TT HTT
        clear hN
        unfold StepTo
        simp only [putAll, Act.put, List.setIfInBounds_toArray, List.set_cons_succ, List.set_cons_zero]
        go_wp2_with fail
        exact ⟨rfl, _, rfl, HTT.out _ _ (rfl) (Only.refl _ _)⟩
      · intro x wx ox hN TT HTT
        clear hN
        unfold StepTo
        simp only [putAll, Act.put, List.setIfInBounds_toArray, List.set_cons_succ, List.set_cons_zero]
        go_wp2_with fail
        exact ⟨rfl, _, rfl, HTT.out _ _ (rfl) (Only.refl _ _)⟩
      · intro x wx ox hN TT HTT
        have r21 : x 4 = (.slice (some ⟨gg', o', none⟩) L c') := hN.1 rfl
        have r22 : x 5 = (.int .i64 (i : Int)) := hN.2.1 rfl
        clear hN
        unfold StepTo
        simp only [putAll, Act.put, List.setIfInBounds_toArray, List.set_cons_succ, List.set_cons_zero, r21, r22]
        clear r21 r22
        go_wp2_with fail
        exact ⟨rfl, _, rfl, HTT.out _ _ (rfl) (Only.refl _ _)⟩
      · intro x wx ox hN TT HTT
        have r23 : x 6 = (.pointer (some ⟨gg', o' + i * 11, none⟩)) := hN.1 rfl
        clear hN
        unfold StepTo
        simp only [putAll, Act.put, List.setIfInBounds_toArray, List.set_cons_succ, List.set_cons_zero, r23]
        clear r23
        obtain ⟨m0_, m1_, m2_, m3_, m4_, m5_, m6_, m7_, m8_, m9_, m10_, m11_, m12_, m13_, m14_, m15_, m16_, m17_, m18_, m19_, m20_, m21_⟩ := HX.out wx ox
        go_wp2_with fail
        exact ⟨rfl, _, rfl, HTT.out _ _ (rfl) (Only.refl _ _)⟩
      · intro x wx ox hN TT HTT
        have r20 : x 3 = (.agg #[.string ⟨m0.toArray⟩, .slice g lg eg, .string ⟨s1.toArray⟩, .slice a1 l1 e1, .bool b1, .bool h1, .int .u8 (k : Int), .int .i64 n, .string ⟨s2.toArray⟩, .slice a2 l2 e2, .slice a3 l3 e3]) := hN.1 rfl
        have r24 : x 7 = (.agg #[.string ⟨m0'.toArray⟩, .slice g' lg' eg', .string ⟨s1'.toArray⟩, .slice a1' l1' e1', .bool b1', .bool h1', .int .u8 (k' : Int), .int .i64 n', .string ⟨s2'.toArray⟩, .slice a2' l2' e2', .slice a3' l3' e3']) := hN.2.1 rfl
        clear hN
        unfold StepTo
        simp only [putAll, Act.put, List.setIfInBounds_toArray, List.set_cons_succ, List.set_cons_zero, r20, r24]
        clear r20 r24
        have ht := HREC.out wx ox
        have HT := Lib.hid ht; clear ht
        go_wp2_with fail
        refine HT.out.mono ?_
        rintro e w6 ⟨rfl, o6⟩
        have O6 := Lib.hid o6; clear o6
        go_wp2_with fail
        exact ⟨rfl, _, rfl, HTT.out _ _ (rfl) (O6.out)⟩
      intro xz wxz oxz hN
      have r17 : xz 0 = (.slice (some ⟨gg, o, none⟩) L c) := hN.1
      have r18 : xz 1 = (.int .i64 (i : Int)) := hN.2.1
      have r19 : xz 2 = (.pointer (some ⟨gg, o + i * 11, none⟩)) := hN.2.2.1
      have r20 : xz 3 = (.agg #[.string ⟨m0.toArray⟩, .slice g lg eg, .string ⟨s1.toArray⟩, .slice a1 l1 e1, .bool b1, .bool h1, .int .u8 (k : Int), .int .i64 n, .string ⟨s2.toArray⟩, .slice a2 l2 e2, .slice a3 l3 e3]) := hN.2.2.2.1
      have r21 : xz 4 = (.slice (some ⟨gg', o', none⟩) L c') := hN.2.2.2.2.1
      have r22 : xz 5 = (.int .i64 (i : Int)) := hN.2.2.2.2.2.1
      have r23 : xz 6 = (.pointer (some ⟨gg', o' + i * 11, none⟩)) := hN.2.2.2.2.2.2.1
      have r24 : xz 7 = (.agg #[.string ⟨m0'.toArray⟩, .slice g' lg' eg', .string ⟨s1'.toArray⟩, .slice a1' l1' e1', .bool b1', .bool h1', .int .u8 (k' : Int), .int .i64 n', .string ⟨s2'.toArray⟩, .slice a2' l2' e2', .slice a3' l3' e3']) := hN.2.2.2.2.2.2.2.1
      have r25 : xz 8 = (.bool true) := hN.2.2.2.2.2.2.2.2.1
      clear hN
      simp only [putAll, Act.put, List.setIfInBounds_toArray, List.set_cons_succ, List.set_cons_zero, r17, r18, r19, r20, r21, r22, r23, r24, r25]
      clear r17 r18 r19 r20 r21 r22 r23 r24 r25
      have OZ := Lib.hid (HO.out.trans ((Only.refl _ wr).drew.trans oxz)); clear oxz
      go_wp2_with fail
      go_roundw
      case rel => exact ⟨i + 1, by simp [go_sem], by omega, OZ⟩
      case measure => simp [intOf]; omega
    · have hke : i = L := by omega
      subst hke
      have t3 : decide ((i : Int) < (i : Int)) = false := by simp
      go_wp2_with fail
      go_ret
      exact ⟨rfl, HO.out⟩
set_option maxRecDepth 100000 in
set_option maxHeartbeats 16000000 in
theorem sameFd_of (f : FD) (ih : SameFDs (f.args.map FD.of)) : SameFD f := by
  intro G G' w cs ds h h'
  obtain ⟨gv, ts, us, rfl, hg, ht, hu⟩ := fd_cells h
  obtain ⟨gv', ts', us', rfl, hg', ht', hu'⟩ := fd_cells h'
  have hg2 : CellAt w G (.row 11 ((f.args.map FD.of).map fdC)) gv := by rw [List.map_map]; exact hg
  have hg2' : CellAt w G' (.row 11 ((f.args.map FD.of).map fdC)) gv' := by rw [List.map_map]; exact hg'
  have hga := fun (wx : World) (ox : Only (fun _ => False) w wx) => ih G G' wx _ _ (CellAt.only ox (fun _ _ h => h) _ _ hg2) (CellAt.only ox (fun _ _ h => h) _ _ hg2')
  have hta := fun (wx : World) (ox : Only (fun _ => False) w wx) => sameT_true _ G G' wx _ _ (CellsAt.only ox (fun _ _ h => h) _ _ ht) (CellsAt.only ox (fun _ _ h => h) _ _ ht')
  have hva := fun (wx : World) (ox : Only (fun _ => False) w wx) => sameV_true _ (CellsAt.only ox (fun _ _ h => h) _ _ hu) (CellsAt.only ox (fun _ _ h => h) _ _ hu')
  obtain ⟨g, eg, rfl, -⟩ := rows_at hg
  obtain ⟨g', eg', rfl, -⟩ := rows_at hg'
  obtain ⟨s1, a1, l1, e1, b1, rfl⟩ := trC_form2 ht
  obtain ⟨s1', a1', l1', e1', b1', rfl⟩ := trC_form2 ht'
  obtain ⟨k, n, s2, a2, l2, e2, a3, l3, e3, rfl⟩ := valC_form2 hu
  obtain ⟨k', n', s2', a2', l2', e2', a3', l3', e3', rfl⟩ := valC_form2 hu'
  generalize f.name = nm at *
  generalize f.has = has at *
  generalize f.args.length = lg at *
  simp only [List.cons_append, List.nil_append]
  clear h h' hg hg' hg2 hg2' ht ht' hu hu'
  obtain ⟨wb, hwb⟩ : ∃ wb, (w.alloc (.cells #[.string ⟨nm.toArray⟩, .slice g lg eg, .string ⟨s1.toArray⟩, .slice a1 l1 e1, .bool b1, .bool has, .int .u8 (k : Int), .int .i64 n, .string ⟨s2.toArray⟩, .slice a2 l2 e2, .slice a3 l3 e3] 93)).alloc (.cells #[.string ⟨nm.toArray⟩, .slice g' lg eg', .string ⟨s1'.toArray⟩, .slice a1' l1' e1', .bool b1', .bool has, .int .u8 (k' : Int), .int .i64 n', .string ⟨s2'.toArray⟩, .slice a2' l2' e2', .slice a3' l3' e3'] 93) = wb := ⟨_, rfl⟩
  have ob : Only (fun _ => False) w wb := by rw [← hwb]; exact ((Only.refl _ w).alloc _).alloc _
  obtain ⟨bA, hbA⟩ : ∃ b, w.heap.size = b := ⟨_, rfl⟩
  obtain ⟨bB, hbB⟩ : ∃ b, bA + 1 = b := ⟨_, rfl⟩
  have hx1 : wb.heap[bA]? = some (.cells #[.string ⟨nm.toArray⟩, .slice g lg eg, .string ⟨s1.toArray⟩, .slice a1 l1 e1, .bool b1, .bool has, .int .u8 (k : Int), .int .i64 n, .string ⟨s2.toArray⟩, .slice a2 l2 e2, .slice a3 l3 e3] 93 (0, 0)) := by rw [← hwb, ← hbA]; exact heap_old (heap_new w _) _
  have hx2 : wb.heap[bB]? = some (.cells #[.string ⟨nm.toArray⟩, .slice g' lg eg', .string ⟨s1'.toArray⟩, .slice a1' l1' e1', .bool b1', .bool has, .int .u8 (k' : Int), .int .i64 n', .string ⟨s2'.toArray⟩, .slice a2' l2' e2', .slice a3' l3' e3'] 93 (0, 0)) := by
    rw [← hwb, ← hbB, ← hbA]
    have := heap_new (w.alloc (.cells #[.string ⟨nm.toArray⟩, .slice g lg eg, .string ⟨s1.toArray⟩, .slice a1 l1 e1, .bool b1, .bool has, .int .u8 (k : Int), .int .i64 n, .string ⟨s2.toArray⟩, .slice a2 l2 e2, .slice a3 l3 e3] 93)) (.cells #[.string ⟨nm.toArray⟩, .slice g' lg eg', .string ⟨s1'.toArray⟩, .slice a1' l1' e1', .bool b1', .bool has, .int .u8 (k' : Int), .int .i64 n', .string ⟨s2'.toArray⟩, .slice a2' l2' e2', .slice a3' l3' e3'] 93)
    rw [World.size_alloc] at this; exact this
  obtain ⟨c0, c1, c2, c3, c4, c5, c6, c7, c8, c9, c10, -⟩ := boxN11 hx1
  obtain ⟨d0, d1, d2, d3, d4, d5, d6, d7, d8, d9, d10, -⟩ := boxN11 hx2
  have HOB := Lib.hid ob; have HWB := Lib.hid hwb; have HBA := Lib.hid hbA; have HBB := Lib.hid hbB
  have HGA := Lib.hid (fun (wx : World) (ox : Only (fun _ => False) wb wx) => hga wx (HOB.out.trans ox))
  have HTA := Lib.hid (fun (wx : World) (ox : Only (fun _ => False) wb wx) => hta wx (HOB.out.trans ox))
  have HVA := Lib.hid (fun (wx : World) (ox : Only (fun _ => False) wb wx) => hva wx (HOB.out.trans ox))
  clear hx1 hx2 ob hwb hbA hbB hga hta hva
  go_enter Tryd.func74, Tryd.ntmps74
  go_upto_region 1 with (fail)
  rw [HWB.out, HBA.out, HBB.out]
  go_wp2_with fail
  refine (HTA.out wb (Only.refl _ _)).mono ?_
  rintro e w6 ⟨rfl, o6⟩
  have c0 := keepc o6 c0
  have c1 := keepc o6 c1
  have c2 := keepc o6 c2
  have c3 := keepc o6 c3
  have c4 := keepc o6 c4
  have c5 := keepc o6 c5
  have c6 := keepc o6 c6
  have c7 := keepc o6 c7
  have c8 := keepc o6 c8
  have c9 := keepc o6 c9
  have c10 := keepc o6 c10
  have d0 := keepc o6 d0
  have d1 := keepc o6 d1
  have d2 := keepc o6 d2
  have d3 := keepc o6 d3
  have d4 := keepc o6 d4
  have d5 := keepc o6 d5
  have d6 := keepc o6 d6
  have d7 := keepc o6 d7
  have d8 := keepc o6 d8
  have d9 := keepc o6 d9
  have d10 := keepc o6 d10
  have HO6 := Lib.hid o6; clear o6
  go_wp2_with fail
  refine (HVA.out w6 HO6.out).mono ?_
  rintro e w7 ⟨rfl, o7⟩
  have c0 := keepc o7 c0
  have c1 := keepc o7 c1
  have c2 := keepc o7 c2
  have c3 := keepc o7 c3
  have c4 := keepc o7 c4
  have c5 := keepc o7 c5
  have c6 := keepc o7 c6
  have c7 := keepc o7 c7
  have c8 := keepc o7 c8
  have c9 := keepc o7 c9
  have c10 := keepc o7 c10
  have d0 := keepc o7 d0
  have d1 := keepc o7 d1
  have d2 := keepc o7 d2
  have d3 := keepc o7 d3
  have d4 := keepc o7 d4
  have d5 := keepc o7 d5
  have d6 := keepc o7 d6
  have d7 := keepc o7 d7
  have d8 := keepc o7 d8
  have d9 := keepc o7 d9
  have d10 := keepc o7 d10
  have HO7 := Lib.hid (HO6.out.trans o7); clear o7
  go_wp2_with fail
  refine (HGA.out w7 HO7.out).mono ?_
  rintro e w8 ⟨rfl, o8⟩
  have HO8 := Lib.hid (HOB.out.trans (HO7.out.trans o8)); clear o8
  clear c0 c1 c2 c3 c4 c5 c6 c7 c8 c9 c10 d0 d1 d2 d3 d4 d5 d6 d7 d8 d9 d10
  go_wp2_with fail
  go_ret
  exact ⟨rfl, HO8.out⟩
theorem sameFDs_all (fs : List FD) : SameFDs fs := sameFds_of fs fun f _ => sameFd_of f (sameFds_of _ fun g hg => by
  obtain ⟨i, _, rfl⟩ := List.mem_map.1 hg
  exact sameFd_of _ (sameFds_of _ fun f h => by cases h))
end Go.Proofs.YtgephneppgcnlaaDoor
