/- . -/
import Derived.Test.YtnkpoddbbdmipaaGreatDoorTKiSme
import Derived.Test.YtnkpoddbbdmipaaGreatDoorTKiTys
import Derived.Test.YtnkpoddbbdmipaaGreatDoorTKiTyt
namespace Go.Proofs.YtnkpoddbbdmipaaGreatDoor
open Go Go.RowKit
open Go.Lib (hid)
set_option linter.unusedVariables false
set_option linter.unusedSimpArgs false
theorem fd_of_inj {i j : IN} (h : FD.of i = FD.of j) : i = j := by
 obtain ⟨a, b, c, d⟩ := i; obtain ⟨a', b', c', d'⟩ := j
 injection h with h1 h2 h3 h4 h5
 subst h1; subst h3; subst h4; subst h5; rfl
theorem fds_of_inj : ∀ {l m : List IN}, l.map FD.of = m.map FD.of → l = m
 | [], [], _ => rfl
 | [], _ :: _, h => by simp at h
 | _ :: _, [], h => by simp at h
 | i :: l, j :: m, h => by
  rw [List.map_cons, List.map_cons] at h
  injection h with h1 h2
  rw [fd_of_inj h1, fds_of_inj h2]
theorem fd_ext {f f' : FD} (h1 : f.name = f'.name) (h2 : f.has = f'.has) (h3 : f.t = f'.t) (h4 : f.v = f'.v) (h5 : f.args.map FD.of = f'.args.map FD.of) : f = f' := by
 have h6 := fds_of_inj h5; clear h5
 cases f; cases f'
 simp only at h1 h2 h3 h4 h6; subst h1; subst h2; subst h3; subst h4; subst h6; rfl
theorem sameT_of (t u : TR) (R : Bool) (hR : R = true ↔ t = u) (G G' : Nat → Prop) (w : World) (cs ds : List Value) (h : CellsAt w G (trC t) cs) (h' : CellsAt w G' (trC u) ds) :
  Calls Tryz.prog 24 #[.agg cs.toArray, .agg ds.toArray] w (fun e w' => e = .returned (.bool R) ∧ Only (fun _ => False) w w') := by
 have e : trSame t u = R := by
  cases hq : trSame t u with
  | true => exact (hR.2 ((trSame_iff _ _).1 hq)).symm
  | false =>
   cases R with
   | false => rfl
   | true => rw [(trSame_iff _ _).2 (hR.1 rfl)] at hq; cases hq
 rw [← e]; exact sameT_any t u G G' w cs ds h h'
def SameFDG (f f' : FD) : Prop := ∀ (R : Bool), (R = true ↔ f = f') → ∀ (G G' : Nat → Prop) (w : World) (cs ds : List Value), CellsAt w G (fdC f) cs → CellsAt w G' (fdC f') ds →
  Calls Tryz.prog 88 #[.agg cs.toArray, .agg ds.toArray] w (fun e w' => e = .returned (.bool R) ∧ Only (fun _ => False) w w')
def SameFDsG (fs gs : List FD) : Prop := ∀ (R : Bool), (R = true ↔ fs = gs) → ∀ (G G' : Nat → Prop) (w : World) (v u : Value), CellAt w G (.row 11 (fs.map fdC)) v → CellAt w G' (.row 11 (gs.map fdC)) u →
  Calls Tryz.prog 68 #[v, u] w (fun e w' => e = .returned (.bool R) ∧ Only (fun _ => False) w w')
set_option maxRecDepth 100000 in
set_option maxHeartbeats 16000000 in
theorem sameFds_ofG (fs gs : List FD) (ih : ∀ f ∈ fs, ∀ f' ∈ gs, SameFDG f f') : SameFDsG fs gs := by
 intro R hR G G' w v u h h'; obtain ⟨a, c, rfl, k1, k2, k3⟩ := rows_at h; obtain ⟨a', c', rfl, k1', k2', k3'⟩ := rows_at h'; obtain ⟨L, hL⟩ := eX (fs.length)
 by_cases hd : fs.length ≠ gs.length
 ·have e : R = false := by
   cases R with
   | false => rfl
   | true => exact absurd (congrArg List.length (hR.1 rfl)) hd
  subst e; obtain ⟨l2, hl2⟩ := eX (gs.length); rw [hL, hl2] at hd; rw [hL, hl2]; have t1 : ((L : Int) == (l2 : Int)) = false := by simp; omega
  have t2 : ((L : Int) != (l2 : Int)) = true := by simp; omega
  clear hL hl2 hd k3 k3' h h' ih hR
  go_enter Tryz.func68, Tryz.ntmps68
  go_wp2_with fail
  go_ret
  exact ⟨rfl, oR⟩
 have hE : fs.length = gs.length := Classical.byContradiction hd; rw [← hE] at k1' ⊢; rw [hL] at k1 k1' ⊢; have HR := hid hR; have HE := hid hE; clear hR hE hd; have HL := hid hL; have HK := hid k3; have HK' := hid k3'; have IH := hid ih; clear hL k3 k3' h h' ih
 go_enter Tryz.func68, Tryz.ntmps68
 go_wp2_with fail
 go_loopw [5] (fun v wr => ∃ i : Nat, v = .int .i64 (i : Int) ∧ i ≤ L ∧ Hid (Only (fun _ => False) w wr ∧ fs.take i = gs.take i)) (fun v _ => L - (intOf v).toNat)
 case atStart => exact ⟨0, by simp, by omega, hid ⟨oR, rfl⟩⟩
 case round =>
  obtain ⟨i, rfl, hi, HOT⟩ := hrel; have HO := hid HOT.out.1; have HTK := hid HOT.out.2; clear HOT
  by_cases hlt : i < L
  ·have t3 : decide ((i : Int) < (L : Int)) = true := by simpa using hlt
   have hi0 : (0 : Int) ≤ (i : Int) := by omega
   have hi1 : (i : Int) < (L : Int) := by omega
   have hil : i < fs.length := by rw [HL.out]; exact hlt
   have hjl : i < gs.length := by rw [← HE.out]; exact hil
   obtain ⟨R1, hR1⟩ := sm_ex fs[i] gs[i]; have HNX := hid (fun e : R1 = true => take_snoc HTK.out hil hjl (hR1.1 e)); have HNE := hid (fun e : R1 = false => get_ne hil hjl (fun h => by have := hR1.2 h; rw [e] at this; cases this)); obtain ⟨gg, o, xs, rfl, -, q1, q2⟩ := HK.out i hil; obtain ⟨gg', o', xs', rfl, -, q1', q2'⟩ := HK'.out i hjl; have hrec := fun (wx : World) (ox : Only (fun _ => False) w wx) => IH.out _ (List.getElem_mem hil) _ (List.getElem_mem hjl) R1 hR1 G G' wx _ _ (CellsAt.only ox (fun _ _ h => h) _ _ q2) (CellsAt.only ox (fun _ _ h => h) _ _ q2')
   obtain ⟨m0, g, lg, eg, s1, a1, l1, e1, b1, h1, k, n, s2, a2, l2, e2, a3, l3, e3, he⟩ := fdC_form q2; obtain ⟨m0', g', lg', eg', s1', a1', l1', e1', b1', h1', k', n', s2', a2', l2', e2', a3', l3', e3', he'⟩ := fdC_form q2'; rw [he, he'] at hrec; have hxs : xs = (#[.string ⟨m0.toArray⟩, .slice g lg eg, .string ⟨s1.toArray⟩, .slice a1 l1 e1, .bool b1, .bool h1, .int .u8 (k : Int), .int .i64 n, .string ⟨s2.toArray⟩, .slice a2 l2 e2, .slice a3 l3 e3] : Array Value).toList := by rw [← he]
   have hxs' : xs' = (#[.string ⟨m0'.toArray⟩, .slice g' lg' eg', .string ⟨s1'.toArray⟩, .slice a1' l1' e1', .bool b1', .bool h1', .int .u8 (k' : Int), .int .i64 n', .string ⟨s2'.toArray⟩, .slice a2' l2' e2', .slice a3' l3' e3'] : Array Value).toList := by rw [← he']
   rw [hxs] at q1; rw [hxs'] at q1'; obtain ⟨e0_, e1_, e2_, e3_, e4_, e5_, e6_, e7_, e8_, e9_, e10_⟩ := cells11_of q1; obtain ⟨f0, f1, f2, f3, f4, f5, f6, f7, f8, f9, f10⟩ := cells11_of q1'; have HX := hid (fun (wx : World) (ox : Only (fun _ => False) wr.drew wx) => have ow := HO.out.trans ((Only.refl _ wr).drew.trans ox); And.intro (keepc ow e0_) (And.intro (keepc ow e1_) (And.intro (keepc ow e2_) (And.intro (keepc ow e3_) (And.intro (keepc ow e4_) (And.intro (keepc ow e5_) (And.intro (keepc ow e6_) (And.intro (keepc ow e7_) (And.intro (keepc ow e8_) (And.intro (keepc ow e9_) (And.intro (keepc ow e10_) (And.intro (keepc ow f0) (And.intro (keepc ow f1) (And.intro (keepc ow f2) (And.intro (keepc ow f3) (And.intro (keepc ow f4) (And.intro (keepc ow f5) (And.intro (keepc ow f6) (And.intro (keepc ow f7) (And.intro (keepc ow f8) (And.intro (keepc ow f9) (keepc ow f10)))))))))))))))))))))); have HREC := hid (fun (wx : World) (ox : Only (fun _ => False) wr.drew wx) => hrec wx (HO.out.trans ((Only.refl _ wr).drew.trans ox))); clear hrec hR1 hjl q1 q1' q2 q2' he he' hxs hxs' e0_ e1_ e2_ e3_ e4_ e5_ e6_ e7_ e8_ e9_ e10_ f0 f1 f2 f3 f4 f5 f6 f7 f8 f9 f10
   go_upto_region 6 with (fail)
   refine wp_region_steps 9 (by kernel_rfl) rfl (by kernel_rfl) [some 17, some 18, some 19, some 20, some 21, some 22, some 23, some 24, some 25] rfl rfl (fun _ => False) [(fun v _ => v = (.slice (some ⟨gg, o, none⟩) L c)), (fun v _ => v = (.int .i64 (i : Int))), (fun v _ => v = (.pointer (some ⟨gg, o + i * 11, none⟩))), (fun v _ => v = (.agg #[.string ⟨m0.toArray⟩, .slice g lg eg, .string ⟨s1.toArray⟩, .slice a1 l1 e1, .bool b1, .bool h1, .int .u8 (k : Int), .int .i64 n, .string ⟨s2.toArray⟩, .slice a2 l2 e2, .slice a3 l3 e3])), (fun v _ => v = (.slice (some ⟨gg', o', none⟩) L c')), (fun v _ => v = (.int .i64 (i : Int))), (fun v _ => v = (.pointer (some ⟨gg', o' + i * 11, none⟩))), (fun v _ => v = (.agg #[.string ⟨m0'.toArray⟩, .slice g' lg' eg', .string ⟨s1'.toArray⟩, .slice a1' l1' e1', .bool b1', .bool h1', .int .u8 (k' : Int), .int .i64 n', .string ⟨s2'.toArray⟩, .slice a2' l2' e2', .slice a3' l3' e3'])), (fun v _ => v = (.bool R1))] rfl ⟨?_, ?_, ?_, ?_, ?_, ?_, ?_, ?_, ?_, trivial⟩ _ rfl ⟨?_, ?_, ?_, ?_, ?_, ?_, ?_, ?_, ?_, trivial⟩ ?_
   iterate 9 exact Stable.is _ _
   ·intro x wx ox hN TT HTT; unfold StepTo; simp only [putAll, Act.put, zA, zB, zC]; clear hN
    go_wp2_with fail
    exact ⟨rfl, _, rfl, HTT.out _ _ rfl oR⟩
   ·intro x wx ox hN TT HTT; unfold StepTo; simp only [putAll, Act.put, zA, zB, zC]; clear hN
    go_wp2_with fail
    exact ⟨rfl, _, rfl, HTT.out _ _ rfl oR⟩
   ·intro x wx ox hN TT HTT; unfold StepTo; simp only [putAll, Act.put, zA, zB, zC, eI (hN.1 rfl), eI (hN.2.1 rfl)]; clear hN
    go_wp2_with fail
    exact ⟨rfl, _, rfl, HTT.out _ _ rfl oR⟩
   ·intro x wx ox hN TT HTT; unfold StepTo; simp only [putAll, Act.put, zA, zB, zC, eI (hN.1 rfl)]; clear hN; obtain ⟨m0_, m1_, m2_, m3_, m4_, m5_, m6_, m7_, m8_, m9_, m10_, m11_, m12_, m13_, m14_, m15_, m16_, m17_, m18_, m19_, m20_, m21_⟩ := HX.out wx ox
    go_wp2_with fail
    exact ⟨rfl, _, rfl, HTT.out _ _ rfl oR⟩
   ·intro x wx ox hN TT HTT; unfold StepTo; simp only [putAll, Act.put, zA, zB, zC]; clear hN
    go_wp2_with fail
    exact ⟨rfl, _, rfl, HTT.out _ _ rfl oR⟩
   ·intro x wx ox hN TT HTT; unfold StepTo; simp only [putAll, Act.put, zA, zB, zC]; clear hN
    go_wp2_with fail
    exact ⟨rfl, _, rfl, HTT.out _ _ rfl oR⟩
   ·intro x wx ox hN TT HTT; unfold StepTo; simp only [putAll, Act.put, zA, zB, zC, eI (hN.1 rfl), eI (hN.2.1 rfl)]; clear hN
    go_wp2_with fail
    exact ⟨rfl, _, rfl, HTT.out _ _ rfl oR⟩
   ·intro x wx ox hN TT HTT; unfold StepTo; simp only [putAll, Act.put, zA, zB, zC, eI (hN.1 rfl)]; clear hN; obtain ⟨m0_, m1_, m2_, m3_, m4_, m5_, m6_, m7_, m8_, m9_, m10_, m11_, m12_, m13_, m14_, m15_, m16_, m17_, m18_, m19_, m20_, m21_⟩ := HX.out wx ox
    go_wp2_with fail
    exact ⟨rfl, _, rfl, HTT.out _ _ rfl oR⟩
   ·intro x wx ox hN TT HTT; unfold StepTo; simp only [putAll, Act.put, zA, zB, zC, eI (hN.1 rfl), eI (hN.2.1 rfl)]; clear hN; have ht := HREC.out wx ox; have HT := hid ht; clear ht
    go_wp2_with fail
    refine HT.out.mono ?_
    rintro e w6 ⟨rfl, o6⟩; have O6 := hid o6; clear o6
    go_wp2_with fail
    exact ⟨rfl, _, rfl, HTT.out _ _ rfl (O6.out)⟩
   intro xz wxz oxz hN; simp only [putAll, Act.put, zA, zB, zC, eI hN.1, eI hN.2.1, eI hN.2.2.1, eI hN.2.2.2.1, eI hN.2.2.2.2.1, eI hN.2.2.2.2.2.1, eI hN.2.2.2.2.2.2.1, eI hN.2.2.2.2.2.2.2.1, eI hN.2.2.2.2.2.2.2.2.1]; clear hN; have OZ := hid (HO.out.trans ((Only.refl _ wr).drew.trans oxz)); clear oxz
   cases R1 with
   | false =>
    have hRf : R = false := by
     have h1 := HNE.out rfl
     cases R with
     | false => rfl
     | true => exact absurd (HR.out.1 rfl) h1
    subst hRf
    go_wp2_with fail
    go_ret
    exact ⟨rfl, OZ.out⟩
   | true =>
    have HNX2 := hid (HNX.out rfl)
    go_wp2_with fail
    go_roundw
    case rel => exact ⟨i + 1, by simp [go_sem], by omega, hid ⟨OZ.out, HNX2.out⟩⟩
    case measure => simp [intOf]; omega
  ·have hke : i = L := by omega
   subst hke; have t3 : decide ((i : Int) < (i : Int)) = false := by simp
   go_wp2_with fail
   have hRt : R = true := HR.out.2 (take_all HTK.out HL.out (by rw [← HE.out]; exact HL.out)); subst hRt
   go_ret
   exact ⟨rfl, HO.out⟩
theorem sameFd_ofG (f f' : FD) (ih : SameFDsG (f.args.map FD.of) (f'.args.map FD.of)) : SameFDG f f' := by
 intro R hR G G' w cs ds h h'; obtain ⟨gv, ts, us, rfl, hg, ht, hu⟩ := fd_cells h; obtain ⟨gv', ts', us', rfl, hg', ht', hu'⟩ := fd_cells h'; have hg2 : CellAt w G (.row 11 ((f.args.map FD.of).map fdC)) gv := by rw [List.map_map]; exact hg
 have hg2' : CellAt w G' (.row 11 ((f'.args.map FD.of).map fdC)) gv' := by rw [List.map_map]; exact hg'
 obtain ⟨RA, hRA⟩ := sm_ex (f.args.map FD.of) (f'.args.map FD.of); obtain ⟨RT, hRT⟩ := sm_ex f.t f'.t; obtain ⟨RV, hRV⟩ := sm_ex f.v f'.v; have hall : R = true ↔ (f.name = f'.name ∧ f.has = f'.has ∧ RT = true ∧ RV = true ∧ RA = true) := by
  rw [hR, hRA, hRT, hRV]; exact ⟨fun e => by subst e; exact ⟨rfl, rfl, rfl, rfl, rfl⟩, fun ⟨e1, e2, e3, e4, e5⟩ => fd_ext e1 e2 e3 e4 e5⟩
 have hga := fun (wx : World) (ox : Only (fun _ => False) w wx) => ih RA hRA G G' wx _ _ (CellAt.only ox (fun _ _ h => h) _ _ hg2) (CellAt.only ox (fun _ _ h => h) _ _ hg2')
 have hta := fun (wx : World) (ox : Only (fun _ => False) w wx) => sameT_of _ _ RT hRT G G' wx _ _ (CellsAt.only ox (fun _ _ h => h) _ _ ht) (CellsAt.only ox (fun _ _ h => h) _ _ ht')
 have hva := fun (wx : World) (ox : Only (fun _ => False) w wx) => sameV_any _ _ RV hRV (CellsAt.only ox (fun _ _ h => h) _ _ hu) (CellsAt.only ox (fun _ _ h => h) _ _ hu')
 obtain ⟨g, eg, rfl, -⟩ := rows_at hg; obtain ⟨g', eg', rfl, -⟩ := rows_at hg'; obtain ⟨s1, a1, l1, e1, b1, rfl⟩ := trC_form2 ht; obtain ⟨s1', a1', l1', e1', b1', rfl⟩ := trC_form2 ht'; obtain ⟨k, n, s2, a2, l2, e2, a3, l3, e3, rfl⟩ := valC_form2 hu; obtain ⟨k', n', s2', a2', l2', e2', a3', l3', e3', rfl⟩ := valC_form2 hu'; have HALL := hid hall; clear hall hR hRA hRT hRV
 generalize f.name = nm at *
 generalize f.has = has at *
 generalize f.args.length = lg at *
 generalize f'.name = nm' at *
 generalize f'.has = has' at *
 generalize f'.args.length = lg' at *
 simp only [List.cons_append, List.nil_append]; clear h h' hg hg' hg2 hg2' ht ht' hu hu'; obtain ⟨wb, hwb⟩ := eX ((w.alloc (.cells #[.string ⟨nm.toArray⟩, .slice g lg eg, .string ⟨s1.toArray⟩, .slice a1 l1 e1, .bool b1, .bool has, .int .u8 (k : Int), .int .i64 n, .string ⟨s2.toArray⟩, .slice a2 l2 e2, .slice a3 l3 e3] 104)).alloc (.cells #[.string ⟨nm'.toArray⟩, .slice g' lg' eg', .string ⟨s1'.toArray⟩, .slice a1' l1' e1', .bool b1', .bool has', .int .u8 (k' : Int), .int .i64 n', .string ⟨s2'.toArray⟩, .slice a2' l2' e2', .slice a3' l3' e3'] 104)); have ob : Only (fun _ => False) w wb := by rw [← hwb]; exact ((Only.refl _ w).alloc _).alloc _
 obtain ⟨bA, hbA⟩ := eX (w.heap.size); obtain ⟨bB, hbB⟩ := eX (bA + 1); have hx1 : wb.heap[bA]? = some (.cells #[.string ⟨nm.toArray⟩, .slice g lg eg, .string ⟨s1.toArray⟩, .slice a1 l1 e1, .bool b1, .bool has, .int .u8 (k : Int), .int .i64 n, .string ⟨s2.toArray⟩, .slice a2 l2 e2, .slice a3 l3 e3] 104 (0, 0)) := by rw [← hwb, ← hbA]; exact heap_old (heap_new w _) _
 have hx2 : wb.heap[bB]? = some (.cells #[.string ⟨nm'.toArray⟩, .slice g' lg' eg', .string ⟨s1'.toArray⟩, .slice a1' l1' e1', .bool b1', .bool has', .int .u8 (k' : Int), .int .i64 n', .string ⟨s2'.toArray⟩, .slice a2' l2' e2', .slice a3' l3' e3'] 104 (0, 0)) := by
  rw [← hwb, ← hbB, ← hbA]; have := heap_new (w.alloc (.cells #[.string ⟨nm.toArray⟩, .slice g lg eg, .string ⟨s1.toArray⟩, .slice a1 l1 e1, .bool b1, .bool has, .int .u8 (k : Int), .int .i64 n, .string ⟨s2.toArray⟩, .slice a2 l2 e2, .slice a3 l3 e3] 104)) (.cells #[.string ⟨nm'.toArray⟩, .slice g' lg' eg', .string ⟨s1'.toArray⟩, .slice a1' l1' e1', .bool b1', .bool has', .int .u8 (k' : Int), .int .i64 n', .string ⟨s2'.toArray⟩, .slice a2' l2' e2', .slice a3' l3' e3'] 104); rw [World.size_alloc] at this; exact this
 obtain ⟨c0, c1, c2, c3, c4, c5, c6, c7, c8, c9, c10, -⟩ := boxN11 hx1; obtain ⟨d0, d1, d2, d3, d4, d5, d6, d7, d8, d9, d10, -⟩ := boxN11 hx2; have HOB := hid ob; have HWB := hid hwb; have HBA := hid hbA; have HBB := hid hbB; have HGA := hid (fun (wx : World) (ox : Only (fun _ => False) wb wx) => hga wx (HOB.out.trans ox)); have HTA := hid (fun (wx : World) (ox : Only (fun _ => False) wb wx) => hta wx (HOB.out.trans ox)); have HVA := hid (fun (wx : World) (ox : Only (fun _ => False) wb wx) => hva wx (HOB.out.trans ox)); clear hx1 hx2 ob hwb hbA hbB hga hta hva
 by_cases h1 : nm = nm'
 ·subst h1
  by_cases h2 : has = has'
  ·subst h2
   go_enter Tryz.func88, Tryz.ntmps88
   go_upto_region 1 with (fail)
   rw [HWB.out, HBA.out, HBB.out]
   go_wp2_with fail
   refine (HTA.out wb oR).mono ?_
   rintro e w6 ⟨rfl, o6⟩; have c0 := keepc o6 c0; have c1 := keepc o6 c1; have c2 := keepc o6 c2; have c3 := keepc o6 c3; have c4 := keepc o6 c4; have c5 := keepc o6 c5; have c6 := keepc o6 c6; have c7 := keepc o6 c7; have c8 := keepc o6 c8; have c9 := keepc o6 c9; have c10 := keepc o6 c10; have d0 := keepc o6 d0; have d1 := keepc o6 d1; have d2 := keepc o6 d2; have d3 := keepc o6 d3; have d4 := keepc o6 d4; have d5 := keepc o6 d5; have d6 := keepc o6 d6; have d7 := keepc o6 d7; have d8 := keepc o6 d8; have d9 := keepc o6 d9; have d10 := keepc o6 d10; have HO6 := hid o6; clear o6
   cases RT with
   | false =>
    have hRf : R = false := by
     cases R with
     | false => rfl
     | true => exact absurd (HALL.out.1 rfl) (fun h => by cases h.2.2.1)
    subst hRf
    go_wp2_with fail
    clear c0 c1 c2 c3 c4 c5 c6 c7 c8 c9 c10 d0 d1 d2 d3 d4 d5 d6 d7 d8 d9 d10
    go_ret
    exact ⟨rfl, HOB.out.trans HO6.out⟩
   | true =>
    go_wp2_with fail
    refine (HVA.out w6 HO6.out).mono ?_
    rintro e w7 ⟨rfl, o7⟩; have c0 := keepc o7 c0; have c1 := keepc o7 c1; have c2 := keepc o7 c2; have c3 := keepc o7 c3; have c4 := keepc o7 c4; have c5 := keepc o7 c5; have c6 := keepc o7 c6; have c7 := keepc o7 c7; have c8 := keepc o7 c8; have c9 := keepc o7 c9; have c10 := keepc o7 c10; have d0 := keepc o7 d0; have d1 := keepc o7 d1; have d2 := keepc o7 d2; have d3 := keepc o7 d3; have d4 := keepc o7 d4; have d5 := keepc o7 d5; have d6 := keepc o7 d6; have d7 := keepc o7 d7; have d8 := keepc o7 d8; have d9 := keepc o7 d9; have d10 := keepc o7 d10; have HO7 := hid (HO6.out.trans o7); clear o7
    cases RV with
    | false =>
     have hRf : R = false := by
      cases R with
      | false => rfl
      | true => exact absurd (HALL.out.1 rfl) (fun h => by cases h.2.2.2.1)
     subst hRf
     go_wp2_with fail
     clear c0 c1 c2 c3 c4 c5 c6 c7 c8 c9 c10 d0 d1 d2 d3 d4 d5 d6 d7 d8 d9 d10
     go_ret
     exact ⟨rfl, HOB.out.trans HO7.out⟩
    | true =>
     go_wp2_with fail
     refine (HGA.out w7 HO7.out).mono ?_
     rintro e w8 ⟨rfl, o8⟩; have HO8 := hid (HOB.out.trans (HO7.out.trans o8)); clear o8; have hRA : R = RA := by
      cases RA with
      | true => exact HALL.out.2 (by simp)
      | false =>
       cases R with
       | false => rfl
       | true => exact absurd (HALL.out.1 rfl).2.2.2.2 (by decide)
     subst hRA
     go_wp2_with fail
     clear c0 c1 c2 c3 c4 c5 c6 c7 c8 c9 c10 d0 d1 d2 d3 d4 d5 d6 d7 d8 d9 d10
     go_ret
     exact ⟨rfl, HO8.out⟩
  ·cases has <;> cases has'
   ·exact absurd rfl h2
   ·clear h2; have hRf : R = false := by
     cases R with
     | false => rfl
     | true => exact absurd (HALL.out.1 rfl) (fun h => by cases h.2.1)
    subst hRf
    go_enter Tryz.func88, Tryz.ntmps88
    go_upto_region 1 with (fail)
    rw [HWB.out, HBA.out, HBB.out]
    go_wp2_with fail
    clear c0 c1 c2 c3 c4 c5 c6 c7 c8 c9 c10 d0 d1 d2 d3 d4 d5 d6 d7 d8 d9 d10
    go_ret
    exact ⟨rfl, HOB.out⟩
   ·clear h2; have hRf : R = false := by
     cases R with
     | false => rfl
     | true => exact absurd (HALL.out.1 rfl) (fun h => by cases h.2.1)
    subst hRf
    go_enter Tryz.func88, Tryz.ntmps88
    go_upto_region 1 with (fail)
    rw [HWB.out, HBA.out, HBB.out]
    go_wp2_with fail
    clear c0 c1 c2 c3 c4 c5 c6 c7 c8 c9 c10 d0 d1 d2 d3 d4 d5 d6 d7 d8 d9 d10
    go_ret
    exact ⟨rfl, HOB.out⟩
   ·exact absurd rfl h2
 ·have z1 : (nm == nm') = false := by simpa using h1
  have z2 : (nm != nm') = true := by simpa using h1
  have hRf : R = false := by
   cases R with
   | false => rfl
   | true => exact absurd (HALL.out.1 rfl) (fun h => h1 h.1)
  subst hRf
  go_enter Tryz.func88, Tryz.ntmps88
  go_upto_region 1 with (fail)
  rw [HWB.out, HBA.out, HBB.out]
  go_wp2_with fail
  clear c0 c1 c2 c3 c4 c5 c6 c7 c8 c9 c10 d0 d1 d2 d3 d4 d5 d6 d7 d8 d9 d10
  go_ret
  exact ⟨rfl, HOB.out⟩
theorem sameFDsG_all (fs gs : List FD) : SameFDsG fs gs := sameFds_ofG fs gs fun f _ f' _ => sameFd_ofG f f' (sameFds_ofG _ _ fun g hg g' hg' => by
 obtain ⟨i, _, rfl⟩ := List.mem_map.1 hg; obtain ⟨i', _, rfl⟩ := List.mem_map.1 hg'
 exact sameFd_ofG _ _ (sameFds_ofG _ _ fun f h => by cases h))
end Go.Proofs.YtnkpoddbbdmipaaGreatDoor
