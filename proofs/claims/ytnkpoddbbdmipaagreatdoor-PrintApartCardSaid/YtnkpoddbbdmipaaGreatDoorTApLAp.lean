/- . -/
import Derived.Below
import Derived.Test.YtnkpoddbbdmipaaGreatDoorTApAw8
import Derived.Test.YtnkpoddbbdmipaaGreatDoorTApCnd
import Derived.Test.YtnkpoddbbdmipaaGreatDoorTApPrs
import Derived.Test.YtnkpoddbbdmipaaGreatDoorTApSdg
namespace Go.Proofs.YtnkpoddbbdmipaaGreatDoor
open Go Go.RowKit
open Go.Lib (hid)
set_option linter.unusedVariables false
set_option linter.unusedSimpArgs false
theorem doc_inj {d m : DC} (h : GoodDoc d) (hne : d.ops ≠ [] ∨ d.frags ≠ []) (h' : GoodDoc m) (hne' : m.ops ≠ [] ∨ m.frags ≠ []) (e : ren (docI d) = ren (docI m)) : d = m := by
 obtain ⟨ts, a1, r1, b1⟩ := doc_again h hne; obtain ⟨us, a2, r2, b2⟩ := doc_again h' hne'; rw [e, a2] at a1
 injection a1 with a1
 subst a1; rw [b2] at b1
 injection b1 with b1
 exact b1.symm
theorem op_len {dd : DC} {N : Nat} (hl : (ren (docI dd)).length ≤ N) (i : Nat) (h : i < dd.ops.length) : (ren (opI dd.ops[i])).length ≤ N := by
 have hdr : ren (docI dd) = Lib.join (dd.ops.map (fun o => ren (opI o)) ++ dd.frags.map (fun f => ren (frI f))) [32] := by
  unfold docI; rw [sep_join, List.map_append, List.map_map, List.map_map]; rfl
 rw [hdr] at hl; obtain ⟨bs, hbs⟩ : ∃ l : List (List UInt8), dd.ops.map (fun o => ren (opI o)) ++ dd.frags.map (fun f => ren (frI f)) = l := ⟨_, rfl⟩; rw [hbs] at hl; have hbl : i < bs.length := by rw [← hbs, List.length_append, List.length_map]; omega
 have := join_part (fun x : List UInt8 => x) [32] bs i hbl; rw [List.map_id'] at this; have e : bs[i] = ren (opI dd.ops[i]) := by
  subst hbs; rw [List.getElem_append_left (by rw [List.length_map]; exact h), List.getElem_map]
 rw [e] at this; omega
theorem sub_len (o : OP) : (ren (setI o.sub)).length ≤ (ren (opI o)).length := by
 unfold opI; rw [ren_cons, ren_app]; simp only [List.length_append]; omega
theorem sel0_len {l : List SL} (h : 0 < l.length) : (ren (selI l[0])).length ≤ (ren (setI l)).length := by
 rw [set_renQ (by intro e; subst e; simp at h)]; have := join_part (fun x => ren (selI x)) [32] l 0 h; simp only [List.length_append, List.length_cons, List.length_nil]; omega
theorem docP_bad {s : List UInt8} {a e : Nat} (h : docP s = .bad a e) : e ≠ 0 := by
 unfold docP at h
 cases ht : toks s with
 | bad x c =>
  rw [ht] at h; have h : DR1.bad x c = .bad a e := h
  injection h with _ h; subst h; exact toks_bad ht
 | ok ts =>
  rw [ht] at h; have h : (match docF (ts.length + 1) ⟨[], []⟩ ts with | .ok d _ => DR1.ok d | .bad a e => .bad a e) = .bad a e := h
  cases hd : docF (ts.length + 1) ⟨[], []⟩ ts with
  | ok d r => rw [hd] at h; cases h
  | bad x c => rw [hd] at h; injection h with _ h; subst h; exact docF_bad hd
theorem doc_resF {w : World} {p : DR1} {e : Ending} {w' : World} (h : DocResF w p e w') : ∃ (a1 a2 : Option Addr) (l1 c1 l2 c2 : Nat) (x c : Int), e = .returned (.tuple #[.agg #[.slice a1 l1 c1, .slice a2 l2 c2], .int .i64 x, .int .i64 c]) ∧ Only (fun _ => False) w w' := by
 cases p with
 | ok d =>
  obtain ⟨a1, c1, a2, c2, e1, -, o⟩ := h; exact ⟨a1, a2, _, c1, _, c2, 0, 0, e1, o⟩
 | bad x c => exact ⟨none, none, 0, 0, 0, 0, _, _, h.1, h.2⟩
theorem op_first {w : World} {G : Nat → Prop} {dd : DC} {x y : Value} (hg : GoodDoc dd) (h : CellsAt w G (docC dd) [x, y]) (hl : (ren (docI dd)).length ≤ 2000000) : ∃ a c b e, x = .slice a dd.ops.length c ∧ y = .slice b dd.frags.length e ∧ dd.ops.length ≤ c ∧ c ≤ 9223372036854775807 ∧
  ∀ i (hi : i < dd.ops.length), ∃ (g o gs os ls cs : Nat) (z : SL) (k : Nat) (s0 s1 s2 : List UInt8) (a1 : Option Addr) (l1 e1 : Nat) (a2 : Option Addr) (l2 e2 : Nat) (a3 : Option Addr) (l3 e3 : Nat), a = some ⟨g, o, none⟩ ∧ w.cell? ⟨g, o + i * 4 + 3, none⟩ = some (.slice (some ⟨gs, os, none⟩) ls cs) ∧ 0 < ls ∧ ls ≤ cs ∧ cs ≤ 9223372036854775807 ∧
   (∀ j u, ([.int .u8 (k : Int), .string ⟨s0.toArray⟩, .string ⟨s1.toArray⟩, .string ⟨s2.toArray⟩, .slice a1 l1 e1, .slice a2 l2 e2, .slice a3 l3 e3] : List Value)[j]? = some u → w.cell? ⟨gs, os + j, none⟩ = some u) ∧ GoodSel 23 (GoodS 23) z ∧ CellsAt w G (selC z) [.int .u8 (k : Int), .string ⟨s0.toArray⟩, .string ⟨s1.toArray⟩, .string ⟨s2.toArray⟩, .slice a1 l1 e1, .slice a2 l2 e2, .slice a3 l3 e3] ∧ (ren (selI z)).length ≤ 2000000 := by
 obtain ⟨h1, h2⟩ := doc_cells h; obtain ⟨a, c, rfl, k1, k2, k3⟩ := rows_at h1; obtain ⟨b, e, rfl, -⟩ := rows_at h2; refine ⟨a, c, b, e, rfl, rfl, k1, k2, fun i hi => ?_⟩
 obtain ⟨g, o, xs, ha, -, q1, q2⟩ := k3 i hi; obtain ⟨vv, sv, rfl, -, hs⟩ := op_cells q2; obtain ⟨as_, cs, rfl, n1, n2, n3⟩ := rows_at hs; obtain ⟨hne, hgs⟩ := (hg.1 _ (List.getElem_mem hi)).2.2; have hp : 0 < dd.ops[i].sub.length := List.length_pos_iff.2 hne; obtain ⟨gs, os, ys, rfl, -, p1, p2⟩ := n3 0 hp; have hln := Nat.le_trans (sel0_len hp) (Nat.le_trans (sub_len dd.ops[i]) (op_len hl i hi)); have hgz := hgs _ (List.getElem_mem hp); obtain ⟨z, hz⟩ := eX (dd.ops[i].sub[0]); rw [hz] at p2 hln hgz; obtain ⟨k, al, nm, on_, gz, ds, sub⟩ := z; obtain ⟨gv, dv, sv, rfl, hga, hd, hsb⟩ := sel_cells p2; obtain ⟨a1, e1, rfl, -⟩ := rows_at hga; obtain ⟨a2, e2, rfl, -⟩ := rows_at hd; obtain ⟨a3, e3, rfl, -⟩ := rows_at hsb; refine ⟨g, o, gs, os, _, cs, _, k, al, nm, on_, a1, _, e1, a2, _, e2, a3, _, e3, ha, q1 3 _ rfl, hp, n1, n2, fun j u hu => ?_, hgz, p2, hln⟩
 have := p1 j u hu; rw [Nat.zero_mul, Nat.add_zero] at this; exact this
set_option maxRecDepth 100000 in
set_option maxHeartbeats 16000000 in
theorem papart_walk (a0 a1 : ByteArray) (w : World) (hs0 : a0.size ≤ 140737488351232) (hs1 : a1.size ≤ 140737488351232) (ht : Tab w) :
  Calls Tryz.prog 7 #[.string a0, .string a1] w fun e w' => e = .returned (.bool true) ∧ Below w.heap.size w w' := by
 have HT := hid ht; have JA := hid (fun (wx : World) (ox : Only (fun _ => False) w wx) => awake08 wx (ht.still ox)); have J := hid (JA.out w oR); have HS0 := hid (show a0.size ≤ maxLen by unfold maxLen; omega); have HS1 := hid (show a1.size ≤ maxLen by unfold maxLen; omega); clear ht
 go_enter Tryz.func7, Tryz.ntmps7
 go_wp2_with fail
 refine J.out.mono ?_
 rintro e w1 ⟨rfl, o1⟩; have HO1 := hid o1; clear o1 J
 by_cases hl : 1500 < a0.size + a1.size
 ·have J := hid (JA.out w1 HO1.out); have t1 : decide ((a0.size : Int) + (a1.size : Int) > 1500) = true := decide_eq_true (by omega)
  go_wp2_with fail
  refine J.out.mono ?_
  rintro e w2 ⟨rfl, o2⟩; have HO2 := hid (HO1.out.trans o2); clear o2
  go_wp2_with fail
  go_ret
  exact ⟨rfl, HO2.out.below (Nat.le_refl _) (fun _ _ h => h)⟩
 have t1 : decide ((a0.size : Int) + (a1.size : Int) > 1500) = false := decide_eq_false (by omega); obtain ⟨D, hD⟩ : ∃ D : DR1, docP a0.data.toList = D := ⟨_, rfl⟩; obtain ⟨E, hE⟩ : ∃ D : DR1, docP a1.data.toList = D := ⟨_, rfl⟩; have J := fdocument_any a0 w1 HS0.out; have K := hid (fun (wx : World) => fdocument_any a1 wx HS1.out); rw [hD] at J; rw [hE] at K; have HJ := hid J; have HD := hid hD; have HE := hid hE; clear J hD hE HS0 HS1 JA
 go_wp2_with fail
 clear hl hs0 hs1 t1
 cases D with
 | bad p c =>
  have hc : ((c : Int) != 0) = true := by
   have := docP_bad HD.out; simp; omega
  refine HJ.out.mono ?_
  rintro e w2 ⟨rfl, o2⟩; obtain ⟨wA, hwA⟩ := eX (w2.alloc (.cells #[.slice none 0 0, .slice none 0 0] 26)); have oa : Only (fun _ => False) w2 wA := by rw [← hwA]; exact (Only.refl _ w2).alloc _
  have hbx := heap_new w2 (.cells #[.slice none 0 0, .slice none 0 0] 26); rw [hwA] at hbx; obtain ⟨bD, hbD⟩ := eX (w2.heap.size); rw [hbD] at hbx; obtain ⟨x1, y1, -⟩ := boxN2 hbx; have HW1 := hid hwA; have HB1 := hid hbD; clear hwA hbx hbD; have HO2 := hid (HO1.out.trans (o2.trans oa)); have HK := hid (K.out wA); clear o2 oa HJ K x1 y1
  go_upto_region 4 with (fail)
  rw [HB1.out, HW1.out]; clear HB1 HW1
  go_wp2_with fail
  refine HK.out.mono ?_
  intro e w3 hr; obtain ⟨p1, p2, m1, n1, m2, n2, x, d, rfl, o3⟩ := doc_resF hr; obtain ⟨wB, hwB⟩ := eX (w3.alloc (.cells #[.slice p1 m1 n1, .slice p2 m2 n2] 26)); have oa : Only (fun _ => False) w3 wB := by rw [← hwB]; exact (Only.refl _ w3).alloc _
  have hbx := heap_new w3 (.cells #[.slice p1 m1 n1, .slice p2 m2 n2] 26); rw [hwB] at hbx; obtain ⟨bE, hbE⟩ := eX (w3.heap.size); rw [hbE] at hbx; obtain ⟨x2, y2, -⟩ := boxN2 hbx; have HW2 := hid hwB; have HB2 := hid hbE; clear hwB hbx hbE; have HO3 := hid (HO2.out.trans (o3.trans oa)); clear o3 oa hr HK x2 y2
  go_upto_region 5 with (fail)
  rw [HB2.out, HW2.out]; clear HB2 HW2
  go_wp2_with fail
  go_ret
  exact ⟨rfl, HO3.out.below (Nat.le_refl _) (fun _ _ h => h)⟩
 | ok dd =>
  refine HJ.out.mono ?_
  rintro e w2 ⟨q1, d1, q2, d2, rfl, hd, o2⟩; obtain ⟨n1, hn1⟩ := eX (dd.ops.length); obtain ⟨n2, hn2⟩ := eX (dd.frags.length); rw [hn1, hn2] at hd ⊢; obtain ⟨wA, hwA⟩ := eX (w2.alloc (.cells #[.slice q1 n1 d1, .slice q2 n2 d2] 26)); have oa : Only (fun _ => False) w2 wA := by rw [← hwA]; exact (Only.refl _ w2).alloc _
  have hbx := heap_new w2 (.cells #[.slice q1 n1 d1, .slice q2 n2 d2] 26); rw [hwA] at hbx; obtain ⟨bD, hbD⟩ := eX (w2.heap.size); rw [hbD] at hbx; obtain ⟨x1, y1, -⟩ := boxN2 hbx; have HW1 := hid hwA; have HB1 := hid hbD; clear hwA hbx hbD; have HO2 := hid (HO1.out.trans (o2.trans oa)); have HK := hid (K.out wA); have HDD := hid (CellsAt.only oa (fun _ _ h => h) _ _ hd); have HN1 := hid hn1; have HN2 := hid hn2; clear o2 oa hd HJ K HO1 hn1 hn2
  go_upto_region 4 with (fail)
  rw [HB1.out, HW1.out]; clear HB1 HW1
  go_wp2_with fail
  cases E with
  | bad p c =>
   have hc : ((c : Int) != 0) = true := by
    have := docP_bad HE.out; simp; omega
   refine HK.out.mono ?_
   rintro e w3 ⟨rfl, o3⟩; obtain ⟨wB, hwB⟩ := eX (w3.alloc (.cells #[.slice none 0 0, .slice none 0 0] 26)); have oa : Only (fun _ => False) w3 wB := by rw [← hwB]; exact (Only.refl _ w3).alloc _
   have hbx := heap_new w3 (.cells #[.slice none 0 0, .slice none 0 0] 26); rw [hwB] at hbx; obtain ⟨bE, hbE⟩ := eX (w3.heap.size); rw [hbE] at hbx; obtain ⟨x2, y2, -⟩ := boxN2 hbx; have HW2 := hid hwB; have HB2 := hid hbE; clear hwB hbx hbE; have HO3 := hid (HO2.out.trans (o3.trans oa)); clear o3 oa HK x1 y1 x2 y2
   go_upto_region 5 with (fail)
   rw [HB2.out, HW2.out]; clear HB2 HW2
   go_wp2_with fail
   go_ret
   exact ⟨rfl, HO3.out.below (Nat.le_refl _) (fun _ _ h => h)⟩
  | ok ee =>
   obtain ⟨hg, hne⟩ := docP_good HD.out; obtain ⟨hg', hne'⟩ := docP_good HE.out; have hz := docP_size HD.out; have hz' := docP_size HE.out; obtain ⟨R, hR⟩ := sm_ex dd ee; have hin : (ren (docI dd) == ren (docI ee)) = R := by
    cases R with
    | true => rw [hR.1 rfl]; simp
    | false =>
     cases hq : (ren (docI dd) == ren (docI ee)) with
     | false => rfl
     | true => have := hR.2 (doc_inj hg hne hg' hne' (by simpa using hq)); cases this
   have HPP := hid (fun (wx : World) (ox : Only (fun _ => False) w wx) (G : Nat → Prop) (x y : Value) (h : CellsAt wx G (docC dd) [x, y]) => ppD_any dd hg G wx x y h (HT.out.still ox) (by omega)); have HPQ := hid (fun (wx : World) (ox : Only (fun _ => False) w wx) (G : Nat → Prop) (x y : Value) (h : CellsAt wx G (docC ee) [x, y]) => ppD_any ee hg' G wx x y h (HT.out.still ox) (by omega)); have HSM := hid (fun (wx : World) (G G' : Nat → Prop) (x y x' y' : Value) (h : CellsAt wx G (docC dd) [x, y]) (h' : CellsAt wx G' (docC ee) [x', y']) => sameD_any dd ee R hR G G' wx x y x' y' h h'); have HFS := hid (fun (wx : World) (G : Nat → Prop) (x y : Value) (h : CellsAt wx G (docC dd) [x, y]) => op_first hg h hz); have HP1 := hid (fun (wx : World) (ox : Only (fun _ => False) w wx) (G : Nat → Prop) (z : SL) (cs : List Value) (hz : GoodSel 23 (GoodS 23) z) (h : CellsAt wx G (selC z) cs) (hl : (ren (selI z)).length ≤ 2000000) => psel_of 23 (psetC_all 23) z hz G wx cs h (HT.out.still ox) (by omega)); have HP2 := hid (fun (wx : World) (G : Nat → Prop) (z : SL) (cs : List Value) (hz : GoodSel 23 (GoodS 23) z) (h : CellsAt wx G (selC z) cs) (hl : (ren (selI z)).length ≤ 2000000) => sel_of 23 (setC_all 23) z hz G wx cs h (by omega)); obtain ⟨q, hq⟩ := eX (ren (docI dd)); obtain ⟨q', hq'⟩ : ∃ q, ren (docI ee) = q := ⟨_, rfl⟩; rw [hq, hq'] at hin; rw [hq] at HPP; rw [hq'] at HPQ; have HIN := hid hin; clear hz hz' hq hq' hg hg' hne hne' hR hin HD HE; refine HK.out.mono ?_
   rintro e w3 ⟨r1, f1, r2, f2, rfl, hm, o3⟩; obtain ⟨m1, hm1⟩ := eX (ee.ops.length); obtain ⟨m2, hm2⟩ := eX (ee.frags.length); rw [hm1, hm2] at hm ⊢; obtain ⟨wB, hwB⟩ := eX (w3.alloc (.cells #[.slice r1 m1 f1, .slice r2 m2 f2] 26)); have oa : Only (fun _ => False) w3 wB := by rw [← hwB]; exact (Only.refl _ w3).alloc _
   have hbx := heap_new w3 (.cells #[.slice r1 m1 f1, .slice r2 m2 f2] 26); rw [hwB] at hbx; obtain ⟨bE, hbE⟩ := eX (w3.heap.size); rw [hbE] at hbx; obtain ⟨x2, y2, -⟩ := boxN2 hbx; have HW2 := hid hwB; have HB2 := hid hbE; clear hwB hbx hbE; have ob := o3.trans oa; have HO3 := hid (HO2.out.trans ob); have x1 := keepc ob x1; have y1 := keepc ob y1; have HDD3 := hid (CellsAt.only ob (fun _ _ h => h) _ _ HDD.out); have HMM := hid (CellsAt.only oa (fun _ _ h => h) _ _ hm); have J := hid (HSM.out wB _ _ _ _ _ _ HDD3.out HMM.out); clear o3 oa ob hm HK HDD HO2 HSM hm1 hm2
   go_upto_region 5 with (fail)
   rw [HB2.out, HW2.out]; clear HB2 HW2
   go_wp2_with fail
   refine J.out.mono ?_
   rintro e w4 ⟨rfl, o4⟩; have HO4 := hid (HO3.out.trans o4); have HC := hid (And.intro (keepc o4 x1) (And.intro (keepc o4 y1) (And.intro (keepc o4 x2) (keepc o4 y2)))); have HDD4 := hid (CellsAt.only o4 (fun _ _ h => h) _ _ HDD3.out); have HMM4 := hid (CellsAt.only o4 (fun _ _ h => h) _ _ HMM.out); clear o4 x1 y1 x2 y2 HDD3 HMM HO3 J; obtain ⟨a, c, b, e, ex, ey, k1, k2, k3⟩ := HFS.out w4 _ _ _ HDD4.out; rw [HN1.out] at ex k1
   injection ex with ex _ ec
   subst ex; subst ec; have HK := hid k3; clear ey k3
   go_wp2_with fail
   go_loopw [12] (fun v wr => ∃ i : Nat, v = .int .i64 (i : Int) ∧ i ≤ n1 ∧ Hid (Only (fun _ => False) w4 wr)) (fun v _ => n1 - (intOf v).toNat)
   case atStart => exact ⟨0, by simp, by omega, hid oR⟩
   case round =>
    obtain ⟨i, rfl, hi, HO⟩ := hrel; obtain ⟨x1, y1, x2, y2⟩ := HC.out; have x1 := keepc HO.out x1; have y1 := keepc HO.out y1; have x2 := keepc HO.out x2; have y2 := keepc HO.out y2
    by_cases hlt : i < n1
    ·have t3 : decide ((i : Int) < (n1 : Int)) = true := by simpa using hlt
     have hi0 : (0 : Int) ≤ (i : Int) := by omega
     have hi1 : (i : Int) < (n1 : Int) := by omega
     obtain ⟨g, o, gs, os, ls, cs, z, k, s0, s1, s2, a1, l1, e1, a2, l2, e2, a3, l3, e3, rfl, p0, p1, p2, p3, p4, p5, p6, p7⟩ := HK.out i (by rw [HN1.out]; exact hlt); have hp1 : (0 : Int) < (ls : Int) := by omega
     have oww : Only (fun _ => False) w4 wr := HO.out; have hca := fun (wx : World) (ox : Only (fun _ => False) w4 wx) => HP1.out wx (HO4.out.trans ox) _ z _ p5 (CellsAt.only ox (fun _ _ h => h) _ _ p6) p7
     have hcb := fun (wx : World) (ox : Only (fun _ => False) w4 wx) => HP2.out wx _ z _ p5 (CellsAt.only ox (fun _ _ h => h) _ _ p6) p7
     obtain ⟨tx, htx⟩ := eX (ren (selI z)); rw [htx] at hca hcb; obtain ⟨e0, e1_, e2_, e3_, e4, e5, e6⟩ := cells7_of p4; have HX := hid (fun (wx : World) (ox : Only (fun _ => False) wr.drew wx) => have o := (Only.refl _ wr).drew.trans ox; have ow := oww.trans o; And.intro (keepc o x1) (And.intro (keepc ow p0) (And.intro (keepc ow e0) (And.intro (keepc ow e1_) (And.intro (keepc ow e2_) (And.intro (keepc ow e3_) (And.intro (keepc ow e4) (And.intro (keepc ow e5) (keepc ow e6))))))))); have HA := hid (fun (wx : World) (ox : Only (fun _ => False) wr.drew wx) => hca wx (oww.trans ((Only.refl _ wr).drew.trans ox))); have HB := hid (fun (wx : World) (ox : Only (fun _ => False) wr.drew wx) => hcb wx (oww.trans ((Only.refl _ wr).drew.trans ox))); clear hca hcb p0 p4 p5 p6 p7 e0 e1_ e2_ e3_ e4 e5 e6 htx oww
     go_upto_region 11 with (fail)
     clear x1 y1 x2 y2; refine wp_region_steps 18 (by kernel_rfl) rfl (by kernel_rfl) [some 52, some 53, some 54, some 55, some 56, some 57, some 58, some 59, some 60, some 61, some 62, some 63, some 64, some 65, some 66, some 67, some 68, some 69] rfl rfl (fun _ => False) [(fun v _ => v = (.pointer (some ⟨bD, 0, none⟩))), (fun v _ => v = (.slice (some ⟨g, o, none⟩) n1 d1)), (fun v _ => v = (.int .i64 (i : Int))), (fun v _ => v = (.pointer (some ⟨g, o + i * 4, none⟩))), (fun v _ => v = (.pointer (some ⟨g, o + i * 4 + 3, none⟩))), (fun v _ => v = (.slice (some ⟨gs, os, none⟩) ls cs)), (fun v _ => v = (.pointer (some ⟨gs, os, none⟩))), (fun v _ => v = (.agg #[.int .u8 (k : Int), .string ⟨s0.toArray⟩, .string ⟨s1.toArray⟩, .string ⟨s2.toArray⟩, .slice a1 l1 e1, .slice a2 l2 e2, .slice a3 l3 e3])), (fun v _ => v = (.string ⟨tx.toArray⟩)), (fun v _ => v = (.pointer (some ⟨bD, 0, none⟩))), (fun v _ => v = (.slice (some ⟨g, o, none⟩) n1 d1)), (fun v _ => v = (.int .i64 (i : Int))), (fun v _ => v = (.pointer (some ⟨g, o + i * 4, none⟩))), (fun v _ => v = (.pointer (some ⟨g, o + i * 4 + 3, none⟩))), (fun v _ => v = (.slice (some ⟨gs, os, none⟩) ls cs)), (fun v _ => v = (.pointer (some ⟨gs, os, none⟩))), (fun v _ => v = (.agg #[.int .u8 (k : Int), .string ⟨s0.toArray⟩, .string ⟨s1.toArray⟩, .string ⟨s2.toArray⟩, .slice a1 l1 e1, .slice a2 l2 e2, .slice a3 l3 e3])), (fun v _ => v = (.string ⟨tx.toArray⟩))] rfl ⟨?_, ?_, ?_, ?_, ?_, ?_, ?_, ?_, ?_, ?_, ?_, ?_, ?_, ?_, ?_, ?_, ?_, ?_, trivial⟩ _ rfl ⟨?_, ?_, ?_, ?_, ?_, ?_, ?_, ?_, ?_, ?_, ?_, ?_, ?_, ?_, ?_, ?_, ?_, ?_, trivial⟩ ?_
     iterate 18 exact Stable.is _ _
     ·intro x wx ox hN TT HTT; unfold StepTo; simp only [putAll, Act.put, zA, zB, zC]; clear hN
      go_wp2_with fail
      exact ⟨rfl, _, rfl, HTT.out _ _ rfl oR⟩
     ·intro x wx ox hN TT HTT; unfold StepTo; simp only [putAll, Act.put, zA, zB, zC, eI (hN.1 rfl)]; clear hN; obtain ⟨m1, m2, m3, m4, m5, m6, m7, m8, m9⟩ := HX.out wx ox
      go_wp2_with fail
      exact ⟨rfl, _, rfl, HTT.out _ _ rfl oR⟩
     ·intro x wx ox hN TT HTT; unfold StepTo; simp only [putAll, Act.put, zA, zB, zC]; clear hN
      go_wp2_with fail
      exact ⟨rfl, _, rfl, HTT.out _ _ rfl oR⟩
     ·intro x wx ox hN TT HTT; unfold StepTo; simp only [putAll, Act.put, zA, zB, zC, eI (hN.1 rfl), eI (hN.2.1 rfl)]; clear hN
      go_wp2_with fail
      exact ⟨rfl, _, rfl, HTT.out _ _ rfl oR⟩
     ·intro x wx ox hN TT HTT; unfold StepTo; simp only [putAll, Act.put, zA, zB, zC, eI (hN.1 rfl)]; clear hN
      go_wp2_with fail
      exact ⟨rfl, _, rfl, HTT.out _ _ rfl oR⟩
     ·intro x wx ox hN TT HTT; unfold StepTo; simp only [putAll, Act.put, zA, zB, zC, eI (hN.1 rfl)]; clear hN; obtain ⟨m1, m2, m3, m4, m5, m6, m7, m8, m9⟩ := HX.out wx ox
      go_wp2_with fail
      exact ⟨rfl, _, rfl, HTT.out _ _ rfl oR⟩
     ·intro x wx ox hN TT HTT; unfold StepTo; simp only [putAll, Act.put, zA, zB, zC, eI (hN.1 rfl)]; clear hN
      go_wp2_with fail
      exact ⟨rfl, _, rfl, HTT.out _ _ rfl oR⟩
     ·intro x wx ox hN TT HTT; unfold StepTo; simp only [putAll, Act.put, zA, zB, zC, eI (hN.1 rfl)]; clear hN; obtain ⟨m1, m2, m3, m4, m5, m6, m7, m8, m9⟩ := HX.out wx ox
      go_wp2_with fail
      exact ⟨rfl, _, rfl, HTT.out _ _ rfl oR⟩
     ·intro x wx ox hN TT HTT; unfold StepTo; simp only [putAll, Act.put, zA, zB, zC, eI (hN.1 rfl)]; clear hN; have ht := HA.out wx ox; have HT := hid ht; clear ht
      go_wp2_with fail
      refine HT.out.mono ?_
      rintro e w6 ⟨rfl, o6⟩; have O6 := hid o6; clear o6
      go_wp2_with fail
      exact ⟨rfl, _, rfl, HTT.out _ _ rfl (O6.out)⟩
     ·intro x wx ox hN TT HTT; unfold StepTo; simp only [putAll, Act.put, zA, zB, zC]; clear hN
      go_wp2_with fail
      exact ⟨rfl, _, rfl, HTT.out _ _ rfl oR⟩
     ·intro x wx ox hN TT HTT; unfold StepTo; simp only [putAll, Act.put, zA, zB, zC, eI (hN.1 rfl)]; clear hN; obtain ⟨m1, m2, m3, m4, m5, m6, m7, m8, m9⟩ := HX.out wx ox
      go_wp2_with fail
      exact ⟨rfl, _, rfl, HTT.out _ _ rfl oR⟩
     ·intro x wx ox hN TT HTT; unfold StepTo; simp only [putAll, Act.put, zA, zB, zC]; clear hN
      go_wp2_with fail
      exact ⟨rfl, _, rfl, HTT.out _ _ rfl oR⟩
     ·intro x wx ox hN TT HTT; unfold StepTo; simp only [putAll, Act.put, zA, zB, zC, eI (hN.1 rfl), eI (hN.2.1 rfl)]; clear hN
      go_wp2_with fail
      exact ⟨rfl, _, rfl, HTT.out _ _ rfl oR⟩
     ·intro x wx ox hN TT HTT; unfold StepTo; simp only [putAll, Act.put, zA, zB, zC, eI (hN.1 rfl)]; clear hN
      go_wp2_with fail
      exact ⟨rfl, _, rfl, HTT.out _ _ rfl oR⟩
     ·intro x wx ox hN TT HTT; unfold StepTo; simp only [putAll, Act.put, zA, zB, zC, eI (hN.1 rfl)]; clear hN; obtain ⟨m1, m2, m3, m4, m5, m6, m7, m8, m9⟩ := HX.out wx ox
      go_wp2_with fail
      exact ⟨rfl, _, rfl, HTT.out _ _ rfl oR⟩
     ·intro x wx ox hN TT HTT; unfold StepTo; simp only [putAll, Act.put, zA, zB, zC, eI (hN.1 rfl)]; clear hN
      go_wp2_with fail
      exact ⟨rfl, _, rfl, HTT.out _ _ rfl oR⟩
     ·intro x wx ox hN TT HTT; unfold StepTo; simp only [putAll, Act.put, zA, zB, zC, eI (hN.1 rfl)]; clear hN; obtain ⟨m1, m2, m3, m4, m5, m6, m7, m8, m9⟩ := HX.out wx ox
      go_wp2_with fail
      exact ⟨rfl, _, rfl, HTT.out _ _ rfl oR⟩
     ·intro x wx ox hN TT HTT; unfold StepTo; simp only [putAll, Act.put, zA, zB, zC, eI (hN.1 rfl), eI (hN.2.1 rfl)]; clear hN; have ht := HB.out wx ox; have HT := hid ht; clear ht
      go_wp2_with fail
      refine HT.out.mono ?_
      rintro e w6 ⟨rfl, o6⟩; have O6 := hid o6; clear o6
      go_wp2_with fail
      exact ⟨rfl, _, rfl, HTT.out _ _ rfl (O6.out)⟩
     intro xz wxz oxz hN; simp only [putAll, Act.put, zA, zB, zC, eI hN.1, eI hN.2.1, eI hN.2.2.1, eI hN.2.2.2.1, eI hN.2.2.2.2.1, eI hN.2.2.2.2.2.1, eI hN.2.2.2.2.2.2.1, eI hN.2.2.2.2.2.2.2.1, eI hN.2.2.2.2.2.2.2.2.1, eI hN.2.2.2.2.2.2.2.2.2.1, eI hN.2.2.2.2.2.2.2.2.2.2.1, eI hN.2.2.2.2.2.2.2.2.2.2.2.1, eI hN.2.2.2.2.2.2.2.2.2.2.2.2.1, eI hN.2.2.2.2.2.2.2.2.2.2.2.2.2.1, eI hN.2.2.2.2.2.2.2.2.2.2.2.2.2.2.1, eI hN.2.2.2.2.2.2.2.2.2.2.2.2.2.2.2.1, eI hN.2.2.2.2.2.2.2.2.2.2.2.2.2.2.2.2.1, eI hN.2.2.2.2.2.2.2.2.2.2.2.2.2.2.2.2.2.1]; clear hN; have OZ := hid (HO.out.trans ((Only.refl _ wr).drew.trans oxz)); clear oxz
     go_wp2_with fail
     go_roundw
     case rel => exact ⟨i + 1, by simp [go_sem], by omega, OZ⟩
     case measure => simp [intOf]; omega
    ·have hke : i = n1 := by omega
     subst hke; have t3 : decide ((i : Int) < (i : Int)) = false := by simp
     have oww : Only (fun _ => False) w4 wr := HO.out; have HX := hid (fun (wx : World) (ox : Only (fun _ => False) wr.drew wx) => have o := (Only.refl _ wr).drew.trans ox; And.intro (keepc o x1) (And.intro (keepc o y1) (And.intro (keepc o x2) (keepc o y2)))); have HA := hid (fun (wx : World) (ox : Only (fun _ => False) wr.drew wx) => have ow := oww.trans ((Only.refl _ wr).drew.trans ox); HPP.out wx (HO4.out.trans ow) _ _ _ (CellsAt.only ow (fun _ _ h => h) _ _ HDD4.out)); have HB := hid (fun (wx : World) (ox : Only (fun _ => False) wr.drew wx) => have ow := oww.trans ((Only.refl _ wr).drew.trans ox); HPQ.out wx (HO4.out.trans ow) _ _ _ (CellsAt.only ow (fun _ _ h => h) _ _ HMM4.out)); clear oww
     cases R with
     | true =>
      have z1 := HIN.out
      go_upto_region 13 with (fail)
      clear x1 y1 x2 y2; refine wp_region_steps 7 (by kernel_rfl) rfl (by kernel_rfl) [some 71, some 72, some 73, some 74, some 75, some 76, some 77] rfl rfl (fun _ => False) [(fun v _ => v = (.agg #[.slice q1 i d1, .slice q2 n2 d2])), (fun v _ => v = (.string ⟨q.toArray⟩)), (fun v _ => v = (.agg #[.slice r1 m1 f1, .slice r2 m2 f2])), (fun v _ => v = (.string ⟨q'.toArray⟩)), (fun v _ => v = (.bool true)), (fun v _ => v = (.bool true)), (fun v _ => v = (.bool true))] rfl ⟨?_, ?_, ?_, ?_, ?_, ?_, ?_, trivial⟩ _ rfl ⟨?_, ?_, ?_, ?_, ?_, ?_, ?_, trivial⟩ ?_
      iterate 7 exact Stable.is _ _
      ·intro x wx ox hN TT HTT; unfold StepTo; simp only [putAll, Act.put, zA, zB, zC]; clear hN; obtain ⟨v1, v2, v3, v4⟩ := HX.out wx ox
       go_wp2_with fail
       exact ⟨rfl, _, rfl, HTT.out _ _ rfl oR⟩
      ·intro x wx ox hN TT HTT; unfold StepTo; simp only [putAll, Act.put, zA, zB, zC, eI (hN.1 rfl)]; clear hN; have ht := HA.out wx ox; have HT := hid ht; clear ht
       go_wp2_with fail
       refine HT.out.mono ?_
       rintro e w6 ⟨rfl, o6⟩; have O6 := hid o6; clear o6
       go_wp2_with fail
       exact ⟨rfl, _, rfl, HTT.out _ _ rfl (O6.out)⟩
      ·intro x wx ox hN TT HTT; unfold StepTo; simp only [putAll, Act.put, zA, zB, zC]; clear hN; obtain ⟨v1, v2, v3, v4⟩ := HX.out wx ox
       go_wp2_with fail
       exact ⟨rfl, _, rfl, HTT.out _ _ rfl oR⟩
      ·intro x wx ox hN TT HTT; unfold StepTo; simp only [putAll, Act.put, zA, zB, zC, eI (hN.1 rfl), eI (hN.2.1 rfl)]; clear hN; have ht := HB.out wx ox; have HT := hid ht; clear ht
       go_wp2_with fail
       refine HT.out.mono ?_
       rintro e w6 ⟨rfl, o6⟩; have O6 := hid o6; clear o6
       go_wp2_with fail
       exact ⟨rfl, _, rfl, HTT.out _ _ rfl (O6.out)⟩
      ·intro x wx ox hN TT HTT; unfold StepTo; simp only [putAll, Act.put, zA, zB, zC, eI (hN.1 rfl), eI (hN.2.1 rfl)]; clear hN
       go_wp2_with fail
       exact ⟨rfl, _, rfl, HTT.out _ _ rfl oR⟩
      ·intro x wx ox hN TT HTT; unfold StepTo; simp only [putAll, Act.put, zA, zB, zC]; clear hN
       go_wp2_with fail
       exact ⟨rfl, _, rfl, HTT.out _ _ rfl oR⟩
      ·intro x wx ox hN TT HTT; unfold StepTo; simp only [putAll, Act.put, zA, zB, zC, eI (hN.1 rfl), eI (hN.2.1 rfl)]; clear hN
       go_wp2_with fail
       exact ⟨rfl, _, rfl, HTT.out _ _ rfl oR⟩
      intro xz wxz oxz hN; simp only [putAll, Act.put, zA, zB, zC, eI hN.1, eI hN.2.1, eI hN.2.2.1, eI hN.2.2.2.1, eI hN.2.2.2.2.1, eI hN.2.2.2.2.2.1, eI hN.2.2.2.2.2.2.1]; clear hN; have OZ := hid (HO4.out.trans (HO.out.trans ((Only.refl _ wr).drew.trans oxz))); clear oxz
      go_wp2_with fail
      go_ret
      exact ⟨rfl, OZ.out.below (Nat.le_refl _) (fun _ _ h => h)⟩
     | false =>
      have z1 := HIN.out
      go_upto_region 13 with (fail)
      clear x1 y1 x2 y2; refine wp_region_steps 7 (by kernel_rfl) rfl (by kernel_rfl) [some 71, some 72, some 73, some 74, some 75, some 76, some 77] rfl rfl (fun _ => False) [(fun v _ => v = (.agg #[.slice q1 i d1, .slice q2 n2 d2])), (fun v _ => v = (.string ⟨q.toArray⟩)), (fun v _ => v = (.agg #[.slice r1 m1 f1, .slice r2 m2 f2])), (fun v _ => v = (.string ⟨q'.toArray⟩)), (fun v _ => v = (.bool false)), (fun v _ => v = (.bool false)), (fun v _ => v = (.bool true))] rfl ⟨?_, ?_, ?_, ?_, ?_, ?_, ?_, trivial⟩ _ rfl ⟨?_, ?_, ?_, ?_, ?_, ?_, ?_, trivial⟩ ?_
      iterate 7 exact Stable.is _ _
      ·intro x wx ox hN TT HTT; unfold StepTo; simp only [putAll, Act.put, zA, zB, zC]; clear hN; obtain ⟨v1, v2, v3, v4⟩ := HX.out wx ox
       go_wp2_with fail
       exact ⟨rfl, _, rfl, HTT.out _ _ rfl oR⟩
      ·intro x wx ox hN TT HTT; unfold StepTo; simp only [putAll, Act.put, zA, zB, zC, eI (hN.1 rfl)]; clear hN; have ht := HA.out wx ox; have HT := hid ht; clear ht
       go_wp2_with fail
       refine HT.out.mono ?_
       rintro e w6 ⟨rfl, o6⟩; have O6 := hid o6; clear o6
       go_wp2_with fail
       exact ⟨rfl, _, rfl, HTT.out _ _ rfl (O6.out)⟩
      ·intro x wx ox hN TT HTT; unfold StepTo; simp only [putAll, Act.put, zA, zB, zC]; clear hN; obtain ⟨v1, v2, v3, v4⟩ := HX.out wx ox
       go_wp2_with fail
       exact ⟨rfl, _, rfl, HTT.out _ _ rfl oR⟩
      ·intro x wx ox hN TT HTT; unfold StepTo; simp only [putAll, Act.put, zA, zB, zC, eI (hN.1 rfl), eI (hN.2.1 rfl)]; clear hN; have ht := HB.out wx ox; have HT := hid ht; clear ht
       go_wp2_with fail
       refine HT.out.mono ?_
       rintro e w6 ⟨rfl, o6⟩; have O6 := hid o6; clear o6
       go_wp2_with fail
       exact ⟨rfl, _, rfl, HTT.out _ _ rfl (O6.out)⟩
      ·intro x wx ox hN TT HTT; unfold StepTo; simp only [putAll, Act.put, zA, zB, zC, eI (hN.1 rfl), eI (hN.2.1 rfl)]; clear hN
       go_wp2_with fail
       exact ⟨rfl, _, rfl, HTT.out _ _ rfl oR⟩
      ·intro x wx ox hN TT HTT; unfold StepTo; simp only [putAll, Act.put, zA, zB, zC]; clear hN
       go_wp2_with fail
       exact ⟨rfl, _, rfl, HTT.out _ _ rfl oR⟩
      ·intro x wx ox hN TT HTT; unfold StepTo; simp only [putAll, Act.put, zA, zB, zC, eI (hN.1 rfl), eI (hN.2.1 rfl)]; clear hN
       go_wp2_with fail
       exact ⟨rfl, _, rfl, HTT.out _ _ rfl oR⟩
      intro xz wxz oxz hN; simp only [putAll, Act.put, zA, zB, zC, eI hN.1, eI hN.2.1, eI hN.2.2.1, eI hN.2.2.2.1, eI hN.2.2.2.2.1, eI hN.2.2.2.2.2.1, eI hN.2.2.2.2.2.2.1]; clear hN; have OZ := hid (HO4.out.trans (HO.out.trans ((Only.refl _ wr).drew.trans oxz))); clear oxz
      go_wp2_with fail
      go_ret
      exact ⟨rfl, OZ.out.below (Nat.le_refl _) (fun _ _ h => h)⟩
end Go.Proofs.YtnkpoddbbdmipaaGreatDoor
