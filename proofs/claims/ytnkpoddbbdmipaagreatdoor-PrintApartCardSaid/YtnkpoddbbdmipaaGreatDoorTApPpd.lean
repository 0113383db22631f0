/- . -/
import Derived.Below
import Derived.Test.YtnkpoddbbdmipaaGreatDoorTApPps
import Derived.Test.YtnkpoddbbdmipaaGreatDoorTApPpi
import Derived.Test.YtnkpoddbbdmipaaGreatDoorTApPrz
namespace Go.Proofs.YtnkpoddbbdmipaaGreatDoor
open Go Go.RowKit
open Go.Lib (hid)
set_option linter.unusedVariables false
set_option linter.unusedSimpArgs false
theorem goodI_wellQ {n : List UInt8} {t : TR} {has : Bool} {v : VT} (h : GoodI n t has v) : has = true → WellQ v := fun hh => by
 rcases h.2.2 with ⟨_, h⟩ | ⟨h, _⟩
 ·exact goodV_wellQ true 24 v h
 ·rw [h] at hh; cases hh
set_option maxRecDepth 100000 in
set_option maxHeartbeats 16000000 in
theorem ppD1_any (x : VD) (hg : GoodI x.name x.t x.has x.v) (G : Nat → Prop) (w : World) (cs : List Value) (h : CellsAt w G (vdC x) cs) (ht : Tab w) (hl : (ren (varI x)).length ≤ 1000000000000) :
  Calls Tryz.prog 45 #[.agg cs.toArray] w (fun e w' => e = .returned (.string ⟨(ren (varI x)).toArray⟩) ∧ Only (fun _ => False) w w') := by
 obtain ⟨ts, us, rfl, hts, hus⟩ := vd_cells h; rw [var_ren] at hl ⊢; have hil : (inpB x.name x.t x.has x.v).length ≤ 1000000000000 := by simp only [List.length_append, List.length_cons, List.length_nil] at hl; omega
 have hrec := fun (wx : World) (ox : Only (fun _ => False) w wx) => ppI_any x.name x.t x.has x.v (goodI_wellQ hg) G wx ts us (CellsAt.only ox (fun _ _ h => h) _ _ hts) (CellsAt.only ox (fun _ _ h => h) _ _ hus) (ht.still ox) hil
 obtain ⟨s1, a1, l1, c1, b1, rfl⟩ := trC_form2 hts; obtain ⟨k, n, s2, a2, l2, e2, a3, l3, e3, rfl⟩ := valC_form2 hus; obtain ⟨tx, htx⟩ := eX (inpB x.name x.t x.has x.v); rw [htx] at hrec hil ⊢; obtain ⟨R, hR⟩ : ∃ r, [36] ++ tx = r := ⟨_, rfl⟩; rw [hR]; obtain ⟨nm, hnm⟩ := eX (x.name); obtain ⟨hs, hhs⟩ := eX (x.has); rw [hnm, hhs] at hrec ⊢; simp only [List.cons_append, List.nil_append] at hrec ⊢; obtain ⟨bA, hbA⟩ := eX (w.heap.size); obtain ⟨wb, hwb⟩ := eX (w.alloc (.cells #[.string ⟨nm.toArray⟩, .string ⟨s1.toArray⟩, .slice a1 l1 c1, .bool b1, .bool hs, .int .u8 (k : Int), .int .i64 n, .string ⟨s2.toArray⟩, .slice a2 l2 e2, .slice a3 l3 e3] 60)); have ob : Only (fun _ => False) w wb := by rw [← hwb]; exact (Only.refl _ w).alloc _
 have hx1 : wb.heap[bA]? = some (.cells #[.string ⟨nm.toArray⟩, .string ⟨s1.toArray⟩, .slice a1 l1 c1, .bool b1, .bool hs, .int .u8 (k : Int), .int .i64 n, .string ⟨s2.toArray⟩, .slice a2 l2 e2, .slice a3 l3 e3] 60 (0, 0)) := by rw [← hwb, ← hbA]; exact heap_new w _
 obtain ⟨c0, c1_, c2, c3, c4, c5, c6, c7, c8, c9, -⟩ := boxN10 hx1; have J := hid (hrec wb ob); have HOB := hid ob; have HWB := hid hwb; have HBA := hid hbA; have HR := hid hR; clear hx1 ob hwb hbA hrec h hts hus hl htx hnm hhs hR hg
 go_enter Tryz.func45, Tryz.ntmps45
 go_upto_region 1 with (fail)
 rw [HWB.out, HBA.out]; clear HWB HBA
 go_wp2_with fail
 refine J.out.mono ?_
 rintro e w6 ⟨rfl, o6⟩; have HO6 := hid (HOB.out.trans o6); clear o6 c0 c1_ c2 c3 c4 c5 c6 c7 c8 c9
 go_wp2_with fail
 go_ret
 rw [← HR.out, ← cat_list]; exact ⟨rfl, HO6.out⟩
theorem vars_renQ {l : List VD} (h : l ≠ []) : ren (parI (l.map varI)) = [40] ++ Lib.join (l.map fun x => ren (varI x)) [44, 32] ++ [41] := by
 unfold parI; rw [if_neg (by simpa using h), ren_cons, ren_app, sep_join, List.map_map]; rfl
set_option maxRecDepth 100000 in
set_option maxHeartbeats 16000000 in
theorem ppD_any (dd : DC) (hg : GoodDoc dd) (G : Nat → Prop) (w : World) (x y : Value) (h : CellsAt w G (docC dd) [x, y]) (ht : Tab w) (hl : (ren (docI dd)).length ≤ 1000000000000) :
  Calls Tryz.prog 13 #[.agg #[x, y]] w (fun e w' => e = .returned (.string ⟨(ren (docI dd)).toArray⟩) ∧ Only (fun _ => False) w w') := by
 obtain ⟨h1, h2⟩ := doc_cells h; obtain ⟨a, c, rfl, k1, k2, k3⟩ := rows_at h1; obtain ⟨p, r, rfl, l1, l2, l3⟩ := rows_at h2; obtain ⟨LO, hLO⟩ := eX (dd.ops.length); obtain ⟨LF, hLF⟩ := eX (dd.frags.length); obtain ⟨bs, hbs⟩ : ∃ l : List (List UInt8), dd.ops.map (fun o => ren (opI o)) ++ dd.frags.map (fun f => ren (frI f)) = l := ⟨_, rfl⟩; have hbl : bs.length = LO + LF := by rw [← hbs, List.length_append, List.length_map, List.length_map, hLO, hLF]
 have hdr : ren (docI dd) = Lib.join bs [32] := by
  unfold docI; rw [sep_join, List.map_append, List.map_map, List.map_map, ← hbs]; rfl
 rw [hdr] at hl ⊢; have hlo : ∀ i (h : i < dd.ops.length), (ren (opI dd.ops[i])).length ≤ 1000000000000 := fun i h => by
  have := join_part (fun x : List UInt8 => x) [32] bs i (by omega); rw [List.map_id'] at this; have e : bs[i]'(by omega) = ren (opI dd.ops[i]) := by
   subst hbs; rw [List.getElem_append_left (by rw [List.length_map]; exact h), List.getElem_map]
  rw [e] at this; omega
 have hlf : ∀ i (h : i < dd.frags.length), (ren (frI dd.frags[i])).length ≤ 1000000000000 := fun i h => by
  have := join_part (fun x : List UInt8 => x) [32] bs (dd.ops.length + i) (by omega); rw [List.map_id'] at this; have e : bs[dd.ops.length + i]'(by omega) = ren (frI dd.frags[i]) := by
   subst hbs; rw [List.getElem_append_right (by rw [List.length_map]; omega)]; simp
  rw [e] at this; omega
 have hn := join_few (gap := [32]) (by decide) bs hl; rw [hbl] at hn; have hc1 := k1; have hc2 := l1; rw [hLO] at k1 ⊢; rw [hLF] at l1 ⊢; obtain ⟨bA, hbA⟩ := eX (w.heap.size); obtain ⟨wb, hwb⟩ := eX (w.alloc (.cells #[.slice a LO c, .slice p LF r] 26)); have ob : Only (fun _ => False) w wb := by rw [← hwb]; exact (Only.refl _ w).alloc _
 have hx1 : wb.heap[bA]? = some (.cells #[.slice a LO c, .slice p LF r] 26 (0, 0)) := by rw [← hwb, ← hbA]; exact heap_new w _
 obtain ⟨c0, c1, -⟩ := boxN2 hx1; obtain ⟨R, hR⟩ := eX (Lib.join bs [32]); have hRl := hl; rw [hR] at hRl ⊢; have HOB := hid ob; have HWB := hid hwb; have HBA := hid hbA; have HX1 := hid hx1; have HR := hid hR; have HLL := hid hl; have HBS := hid hbs; have HBL := hid hbl; have HLO := hid hLO; have HLF := hid hLF; have HTO := hid hlo; have HTF := hid hlf; have HKO := hid k3; have HKF := hid l3; have HGO := hid hg.1; have HGF := hid hg.2; have HT := hid ht; clear hx1 ob hwb hbA hl hlo hlf h h1 h2 hdr hbs hbl hR hLO hLF k3 l3 hg ht hc1 hc2
 go_enter Tryz.func13, Tryz.ntmps13
 go_upto_region 1 with (fail)
 rw [HWB.out, HBA.out]; clear HWB HBA
 go_upto_region 2 with (fail)
 obtain ⟨we, hwe⟩ := eX (wb.alloc (.cells #[] 9)); obtain ⟨ge, hge⟩ := eX (wb.heap.size); have hoe : Only (fun _ => False) wb we := by rw [← hwe]; exact (Only.refl _ wb).alloc _
 have hoo : we.ownsRow wb.heap.size 9 1 (.slice (some ⟨ge, 0, none⟩) 0 0) 0 [] := by
  rw [← hwe, ← hge]; exact World.ownsRow_made (base := wb.heap.size) (e := 9) (size := 1) wb #[] 0 (Nat.le_refl _) (by decide) rfl
 have HI := hid (And.intro hoe hoo); rw [hwe, hge]; have c0 := keepc hoe c0; clear hwe hge hoe hoo c1
 go_wp2_with fail
 clear c0
 go_loopw [3, 13] (fun x y wr => ∃ i : Nat, y = .int .i64 (i : Int) ∧ Hid (i ≤ LO ∧ Only (fun _ => False) wb wr ∧ wr.ownsRow wb.heap.size 9 1 x i ((dd.ops.take i).map fun o => .string ⟨(ren (opI o)).toArray⟩))) (fun _ y _ => LO - (intOf y).toNat)
 case atStart => exact ⟨0, rfl, hid ⟨by omega, HI.out.1, HI.out.2⟩⟩
 case round =>
  obtain ⟨i, rfl, hrel⟩ := hrel; obtain ⟨hi, ho, hown⟩ := hrel.out; obtain ⟨ax, cx, ex, x1, x2, x3⟩ := own_form hown; subst ex; have x2' : cx ≤ 9223372036854775807 := by unfold maxLen at x2; omega
  have HO := hid ho; have HOWN := hid hown; have HX3 := hid x3; clear hrel ho hown x2 x3 HI
  by_cases hlt : i < LO
  ·have t1 : decide ((i : Int) < (LO : Int)) = true := decide_eq_true (by omega); have hi0 : (0 : Int) ≤ (i : Int) := by omega
   have hi1 : (i : Int) < (LO : Int) := by omega
   have hvi : i < dd.ops.length := by rw [HLO.out]; exact hlt
   obtain ⟨gv, ov, cs, rfl, -, hr, hc⟩ := HKO.out i hvi; obtain ⟨vv, sv, rfl, hvs, hss⟩ := op_cells hc; have hgo := HGO.out _ (List.getElem_mem hvi); have htl := HTO.out i hvi; have hore : ren (opI dd.ops[i]) = (if dd.ops[i].mut_ then [109, 117, 116, 97, 116, 105, 111, 110] else [113, 117, 101, 114, 121]) ++ (if dd.ops[i].name = [] then [] else [32] ++ dd.ops[i].name) ++ ren (parI (dd.ops[i].vars.map varI)) ++ ren (setI dd.ops[i].sub) := op_ren _ _ _ _; obtain ⟨tx, htx⟩ := eX (ren (opI dd.ops[i])); have HTX := hid htx; rw [htx] at htl hore; have hsub : (ren (setI dd.ops[i].sub)).length ≤ 1000000000000 := by have := congrArg List.length hore; simp only [List.length_append] at this; omega
   have hvar : (ren (parI (dd.ops[i].vars.map varI))).length ≤ 1000000000000 := by have := congrArg List.length hore; simp only [List.length_append] at this; omega
   have hJS := fun (wx : World) (ox : Only (fun _ => False) w wx) => psetC_all 24 dd.ops[i].sub hgo.2.2 G wx sv (CellAt.only ox (fun _ _ h => h) _ _ hss) (HT.out.still ox) hsub
   have hJV : dd.ops[i].vars ≠ [] → ∀ (wx : World) (ox : Only (fun _ => False) w wx), Calls Tryz.prog 44 #[vv, .string ⟨#[44, 32]⟩, .func (.func 45) #[] #[]] wx (fun e w' => e = .returned (.string ⟨(Lib.join (dd.ops[i].vars.map fun x => ren (varI x)) [44, 32]).toArray⟩) ∧ Only (fun _ => False) wx w') := fun hne wx ox => by
    rw [vars_renQ hne] at hvar; have hjl : (Lib.join (dd.ops[i].vars.map fun x => ren (varI x)) [44, 32]).length ≤ 1000000000000 := by simp at hvar; omega
    exact pjoinD_any dd.ops[i].vars (fun x => ren (varI x)) G wx vv [44, 32] (by decide) (CellAt.only ox (fun _ _ h => h) _ _ hvs) (fun j hj wy cs oy hcs => ppD1_any _ (hgo.2.1 _ (List.getElem_mem hj)) G wy cs hcs (HT.out.still (ox.trans oy)) (Nat.le_trans (join_part (fun x => ren (varI x)) [44, 32] _ j hj) hjl)) hjl
   have hvne : dd.ops[i].vars ≠ [] → ren (parI (dd.ops[i].vars.map varI)) = [40] ++ Lib.join (dd.ops[i].vars.map fun x => ren (varI x)) [44, 32] ++ [41] := vars_renQ; have hv0 : dd.ops[i].vars = [] → ren (parI (dd.ops[i].vars.map varI)) = [] := fun e => by rw [e]; rfl
   obtain ⟨av, lv, cv, hvv⟩ : ∃ a l c, vv = .slice a l c ∧ l = dd.ops[i].vars.length := by
    obtain ⟨a, c, e⟩ := row_form hvs; exact ⟨a, _, c, e, by rw [List.length_map]⟩
   obtain ⟨hvv, hlv⟩ := hvv; subst hvv; obtain ⟨as_, cs_, hsv⟩ := row_form hss; subst hsv; obtain ⟨ls, hls⟩ := eX ((dd.ops[i].sub.map selC).length); rw [hls] at hJS hr; obtain ⟨vl, hvl⟩ := eX (dd.ops[i].vars); obtain ⟨pv, hpv⟩ := eX (ren (parI (dd.ops[i].vars.map varI))); obtain ⟨st, hst⟩ := eX (ren (setI dd.ops[i].sub)); obtain ⟨mb, hmb⟩ := eX (dd.ops[i].mut_); obtain ⟨nm, hnm⟩ := eX (dd.ops[i].name); rw [hpv, hst, hmb, hnm] at hore; rw [hpv] at hvar; rw [hpv, hvl] at hvne hv0; rw [hvl] at hJV hlv; rw [hst] at hJS hsub; rw [hmb, hnm] at hr; obtain ⟨p1, hp1⟩ := eX ((if mb then [109, 117, 116, 97, 116, 105, 111, 110] else [113, 117, 101, 114, 121] : List UInt8)); obtain ⟨p2, hp2⟩ := eX (p1 ++ (if nm = [] then [] else [32] ++ nm)); obtain ⟨p3, hp3⟩ := eX (p2 ++ pv); rw [hp1, hp2, hp3] at hore; have hlen3 : p3.length + st.length ≤ 1000000000000 := by have := congrArg List.length hore; rw [List.length_append] at this; omega
   have hlen2 : p2.length + pv.length ≤ 1000000000000 := by rw [← hp3, List.length_append] at hlen3; omega
   have hlen1 : p1.length ≤ 1000000000000 := by rw [← hp2, List.length_append] at hlen2; omega
   have hnml : nm.length ≤ 1000000000000 := by
    by_cases h0 : nm = []
    ·rw [h0]; simp
    ·rw [← hp2, if_neg h0] at hlen2; simp at hlen2; omega
   have e0 := keepc (HOB.out.trans HO.out) (hr 0 _ rfl); have e1 := keepc (HOB.out.trans HO.out) (hr 1 _ rfl); have e2 := keepc (HOB.out.trans HO.out) (hr 2 _ rfl); have e3 := keepc (HOB.out.trans HO.out) (hr 3 _ rfl); rw [Nat.add_zero] at e0; obtain ⟨X, hX⟩ := eX (wr.heap.size); obtain ⟨w4, hw4⟩ := eX (wr.alloc (.cells #[.bool mb, .string ⟨nm.toArray⟩, .slice av lv cv, .slice as_ ls cs_] 56)); have o4 : Only (fun _ => False) wr w4 := by rw [← hw4]; exact (Only.refl _ _).alloc _
   have hx4 : w4.heap[X]? = some (.cells #[.bool mb, .string ⟨nm.toArray⟩, .slice av lv cv, .slice as_ ls cs_] 56 (0, 0)) := by rw [← hw4, ← hX]; exact heap_new _ _
   have HORE := hid hore; have HP1 := hid hp1; have HP2 := hid hp2; have HP3 := hid hp3; have HJS := hid hJS; have HJV := hid hJV; have HVNE := hid hvne; have HV0 := hid hv0; have HLV := hid hlv; have HX := hid hX; have HW4 := hid hw4; have HO4 := hid (HO.out.trans o4); have HX4 := hid hx4; have O4 := hid o4; clear hore hp1 hp2 hp3 hJS hJV hvne hv0 hlv hX hw4 o4 hx4 hr hc hvs hss hgo hls hvl hpv hst hmb hnm htx
   go_upto_region 5 with (fail)
   rw [HX.out, HW4.out]; clear e0 e1 e2 e3 HX HW4; obtain ⟨b0, b1, b2, b3, -⟩ := boxN4 HX4.out
   go_upto_if 18 with (fail)
   go_cut [6] from 14 to 18 (fun v w' => v = .string ⟨p1.toArray⟩ ∧ w' = w4)
   case first =>
    cases mb with
    | true =>
     go_wp2_with fail
     clear b0 b1 b2 b3
     go_meet
     case rel => exact ⟨by rw [← HP1.out]; rfl, rfl⟩
    | false =>
     go_wp2_with fail
     clear b0 b1 b2 b3
     go_meet
     case rel => exact ⟨by rw [← HP1.out]; rfl, rfl⟩
   case rest =>
   obtain ⟨rfl, rfl⟩ := hcut
   go_upto_if 21 with (fail)
   obtain ⟨w4, hw4⟩ : ∃ x, x = wc := ⟨_, rfl⟩; subst hw4
   go_cut [6] from 14 to 26 (fun v w' => v = .string ⟨p2.toArray⟩ ∧ w' = w4)
   case first =>
    by_cases h0 : nm = []
    ·have z3 : nm.isEmpty = true := by simp [h0]
     have hp2 := HP2.out; rw [if_pos h0, List.append_nil] at hp2; have HPP := hid hp2; clear h0 hp2; rw [z3]
     go_wp2_with fail
     clear b0 b1 b2 b3
     go_meet
     case rel => exact ⟨by rw [HPP.out], rfl⟩
    ·have z3 : nm.isEmpty = false := by simpa using h0
     have hp2 := HP2.out; rw [if_neg h0] at hp2; have HPP := hid hp2; clear h0 hp2; rw [z3]
     go_wp2_with fail
     clear b0 b1 b2 b3
     go_meet
     case rel => exact ⟨by rw [← HPP.out]; simp only [← cat_list], rfl⟩
   case rest =>
   obtain ⟨rfl, rfl⟩ := hcut
   go_upto_if 30 with (fail)
   obtain ⟨w4, hw4⟩ : ∃ x, x = wc := ⟨_, rfl⟩; subst hw4
   go_cut [6] from 14 to 37 (fun v w' => v = .string ⟨p3.toArray⟩ ∧ Hid (Only (fun _ => False) w4 w'))
   case first =>
    by_cases h0 : vl = []
    ·have hl0 : lv = 0 := by rw [HLV.out, h0]; rfl
     have hpe : p3 = p2 := by rw [← HP3.out, HV0.out h0, List.append_nil]
     have HPE := hid hpe; clear h0 hpe HJV HLV HX4 HKO; subst hl0
     go_wp2_with fail
     clear b0 b1 b2 b3
     go_meet
     case rel => exact ⟨by rw [HPE.out], hid oR⟩
    ·have hl0 : 0 < lv := by rw [HLV.out]; exact List.length_pos_iff.2 h0
     have t2 : decide ((lv : Int) > 0) = true := decide_eq_true (by omega); have J := HJV.out h0 w4 (HOB.out.trans HO4.out); have hpe := HVNE.out h0; obtain ⟨jn, hjn⟩ := eX (Lib.join (vl.map fun x => ren (varI x)) [44, 32]); rw [hjn] at J hpe; have hp3 : p3 = p2 ++ ([40] ++ jn ++ [41]) := by rw [← HP3.out, hpe]
     have hjnl : jn.length ≤ 1000000000000 := by rw [hpe] at hvar; simp at hvar; omega
     have HPE := hid hp3; have J := hid J; clear h0 hpe hp3 hjn
     go_wp2_with fail
     refine J.out.mono ?_
     rintro e w5 ⟨rfl, o5⟩; have O5 := hid o5; clear o5 b0 b1 b2 b3
     go_wp2_with fail
     go_meet
     case rel => exact ⟨by rw [HPE.out]; simp only [← cat_list], O5⟩
   case rest =>
   obtain ⟨rfl, O45⟩ := hcut; obtain ⟨w5, hw5⟩ := eX (wc); rw [hw5] at O45 ⊢; clear hw5 b0 b1 b2 b3; obtain ⟨b0, b1, b2, b3, -⟩ := boxN4 ((O45.out.block X (gE HX4.out).1 (fun h => h)).trans HX4.out); have J := hid (HJS.out w5 ((HOB.out.trans HO4.out).trans O45.out)); clear b0 b1 b2
   go_wp2_with fail
   refine J.out.mono ?_
   rintro e w6 ⟨rfl, o6⟩; have hcat : (⟨p3.toArray⟩ : ByteArray) ++ ⟨st.toArray⟩ = ⟨tx.toArray⟩ := by rw [cat_list, ← HORE.out]
   obtain ⟨G6, hG6⟩ := eX (w6.heap.size); obtain ⟨w7, hw7⟩ := eX (w6.alloc (.cells #[.string (⟨p3.toArray⟩ ++ ⟨st.toArray⟩)] 9)); have o7 : Only (fun _ => False) w6 w7 := by rw [← hw7]; exact (Only.refl _ _).alloc _
   have hx7 : w7.heap[G6]? = some (.cells #[.string ⟨tx.toArray⟩] 9 (0, 0)) := by rw [← hw7, ← hG6, hcat]; exact heap_new _ _
   have o47 : Only (fun _ => False) wr w7 := ((O4.out.trans O45.out).trans o6).trans o7; have hown7 := own_only' HOWN.out o47 (fun _ _ h => h); have hys : ∀ j u, ([.string ⟨tx.toArray⟩] : List Value)[j]? = some u → w7.cell? ((⟨G6, 0, none⟩ : Addr).add j) = some u := fun j u hu => by
    match j, hu with
    | 0, hu => rw [addr_add]; simp [World.cell?, hx7]; simpa using hu
   have hB7 : wb.heap.size ≤ w7.heap.size := (HO.out.trans o47).size; have HO7 := hid (HO.out.trans o47); have HOWN7 := hid hown7; have HYS := hid hys; have HB7 := hid hB7; have HG6 := hid hG6; have HW7 := hid hw7; clear o6 o7 hx7 o47 hown7 hys hB7 hG6 hw7 b3 hcat
   go_wp2_with ((rw [HG6.out, HW7.out]; refine wpList_append_own2 (o := ⟨some 45, _, _, _, _, _⟩) rfl (.tmp 38) (.tmp 44) 32 9 (by rfl) Tryz.underlying32 infoStrQ rfl (by decide) wb.heap.size (.slice ax i cx) i 1 1 ((dd.ops.take i).map fun o => .string ⟨(ren (opI o)).toArray⟩) [.string ⟨tx.toArray⟩] ⟨G6, 0, none⟩ (by rfl) (by rfl) HOWN7.out (by rfl) HYS.out (by intro u hu; simp at hu; subst hu; rfl) (by unfold maxLen; omega) (by omega) HB7.out ?_; intro v' w9 q1 q2 q3))
   have hoo : Only (fun _ => False) wb w9 := HO7.out.trans' q2 (fun q hq h => by have := (HX3.out q h).1; omega); have hrow : w9.ownsRow wb.heap.size 9 1 v' (i + 1) ((dd.ops.take (i + 1)).map fun o => .string ⟨(ren (opI o)).toArray⟩) := by
    rw [List.take_succ_eq_append_getElem hvi, List.map_append, List.map_singleton, HTX.out]; exact q1
   have HNEW := hid (And.intro (show i + 1 ≤ LO by omega) (And.intro hoo hrow)); clear q1 q2 q3 hoo hrow
   go_wp2_with fail
   go_roundw
   case rel => exact ⟨i + 1, by simp, HNEW⟩
   case measure => simp [intOf]; omega
  ·have t1 : decide ((i : Int) < (LO : Int)) = false := decide_eq_false (by omega); have hiL : i = LO := by omega
   subst hiL; have htk : dd.ops.take i = dd.ops := by rw [← HLO.out]; exact List.take_length
   have hown := HOWN.out; rw [htk] at hown; obtain ⟨vo, hvo⟩ := eX (Value.slice ax i cx); have HI := hid (show 0 ≤ LF ∧ Only (fun _ => False) wb wr ∧ wr.ownsRow wb.heap.size 9 1 (.slice ax i cx) (i + 0) (dd.ops.map (fun o => Value.string ⟨(ren (opI o)).toArray⟩) ++ (dd.frags.take 0).map fun f => .string ⟨(ren (frI f)).toArray⟩) from ⟨by omega, HO.out, by rw [List.take_zero, List.map_nil, List.append_nil]; exact hown⟩); obtain ⟨c0, c1, -⟩ := boxN2 ((HO.out.block bA (gE HX1.out).1 (fun h => h)).trans HX1.out); clear htk hown hvo HOWN HX3 c0
   go_wp2_with fail
   clear c1
   go_loopw [3, 50] (fun x y wr => ∃ j : Nat, y = .int .i64 (j : Int) ∧ Hid (j ≤ LF ∧ Only (fun _ => False) wb wr ∧ wr.ownsRow wb.heap.size 9 1 x (i + j) (dd.ops.map (fun o => Value.string ⟨(ren (opI o)).toArray⟩) ++ (dd.frags.take j).map fun f => .string ⟨(ren (frI f)).toArray⟩))) (fun _ y _ => LF - (intOf y).toNat)
   case atStart => exact ⟨0, rfl, hid ⟨HI.out.1, HI.out.2.1, HI.out.2.2⟩⟩
   case round =>
    obtain ⟨j, rfl, hrel⟩ := hrel; obtain ⟨hj, ho, hown⟩ := hrel.out; obtain ⟨nn, hnn⟩ := eX (i + j); rw [hnn] at hown; obtain ⟨ay, cy, ey, y1, y2, y3⟩ := own_form hown; subst ey; have y2' : cy ≤ 9223372036854775807 := by unfold maxLen at y2; omega
    have HO2 := hid ho; have HOWN := hid hown; have HX3 := hid y3; have HNN := hid hnn; clear hrel ho hown y2 y3 HI hnn
    by_cases hlt : j < LF
    ·have t1 : decide ((j : Int) < (LF : Int)) = true := decide_eq_true (by omega); have hi0 : (0 : Int) ≤ (j : Int) := by omega
     have hi1 : (j : Int) < (LF : Int) := by omega
     have hvj : j < dd.frags.length := by rw [HLF.out]; exact hlt
     obtain ⟨gv, ov, cs, rfl, -, hr, hc⟩ := HKF.out j hvj; obtain ⟨sv, rfl, hss⟩ := fr_cells hc; have hgo := HGF.out _ (List.getElem_mem hvj); have htl := HTF.out j hvj; have hfre : ren (frI dd.frags[j]) = [102, 114, 97, 103, 109, 101, 110, 116, 32] ++ dd.frags[j].name ++ [32, 111, 110, 32] ++ dd.frags[j].on_ ++ ren (setI dd.frags[j].sub) := fr_ren _; obtain ⟨tx, htx⟩ := eX (ren (frI dd.frags[j])); have HTX := hid htx; rw [htx] at htl hfre; have hlen := congrArg List.length hfre; simp only [List.length_append, List.length_cons, List.length_nil] at hlen; have hsub : (ren (setI dd.frags[j].sub)).length ≤ 1000000000000 := by omega
     have hJS := fun (wx : World) (ox : Only (fun _ => False) w wx) => psetC_all 24 dd.frags[j].sub hgo.2.2.2 G wx sv (CellAt.only ox (fun _ _ h => h) _ _ hss) (HT.out.still ox) hsub
     obtain ⟨as_, cs_, hsv⟩ := row_form hss; subst hsv; obtain ⟨ls, hls⟩ := eX ((dd.frags[j].sub.map selC).length); rw [hls] at hJS hr; obtain ⟨st, hst⟩ := eX (ren (setI dd.frags[j].sub)); obtain ⟨on_, hon⟩ := eX (dd.frags[j].on_); obtain ⟨nm, hnm⟩ := eX (dd.frags[j].name); rw [hst, hon, hnm] at hfre hlen; rw [hst] at hJS hsub; rw [hon, hnm] at hr; have hnl : nm.length ≤ 1000000000000 := by omega
     have hol : on_.length ≤ 1000000000000 := by omega
     have e0 := keepc (HOB.out.trans HO2.out) (hr 0 _ rfl); have e1 := keepc (HOB.out.trans HO2.out) (hr 1 _ rfl); have e2 := keepc (HOB.out.trans HO2.out) (hr 2 _ rfl); rw [Nat.add_zero] at e0; obtain ⟨X, hX⟩ := eX (wr.heap.size); obtain ⟨w4, hw4⟩ := eX (wr.alloc (.cells #[.string ⟨nm.toArray⟩, .string ⟨on_.toArray⟩, .slice as_ ls cs_] 76)); have o4 : Only (fun _ => False) wr w4 := by rw [← hw4]; exact (Only.refl _ _).alloc _
     have hx4 : w4.heap[X]? = some (.cells #[.string ⟨nm.toArray⟩, .string ⟨on_.toArray⟩, .slice as_ ls cs_] 76 (0, 0)) := by rw [← hw4, ← hX]; exact heap_new _ _
     have hfv : ∀ k, (Value.slice ay nn cy).ownBlock = some k → wb.heap.size ≤ k ∧ k < w4.heap.size ∧ k ≠ X := fun k hk => by
      have h1 := HX3.out k hk; have h2 := o4.size; exact ⟨h1.1, by omega, by omega⟩
     have hcat : ((((⟨#[102, 114, 97, 103, 109, 101, 110, 116, 32]⟩ : ByteArray) ++ ⟨nm.toArray⟩) ++ ⟨#[32, 111, 110, 32]⟩) ++ ⟨on_.toArray⟩) ++ ⟨st.toArray⟩ = ⟨tx.toArray⟩ := by
      rw [hfre]; simp only [← cat_list]
     have HFRE := hid hfre; have HJS := hid hJS; have HX := hid hX; have HW4 := hid hw4; have HO4 := hid (HO2.out.trans o4); have HX4 := hid hx4; have O4 := hid o4; have HFV := hid hfv; have HCAT := hid hcat; have HX4L := hid (gE hx4).1; have HOWN4 := hid (own_only' HOWN.out o4 (fun _ _ h => h)); have HB4 := hid (show wb.heap.size ≤ w4.heap.size from (HO2.out.trans o4).size); have hnb : nn + 1 ≤ 1000000000002 := by have := HNN.out; omega
     clear hfre hJS hX hw4 o4 hx4 hr hc hss hgo hls hst hon hnm htx hlen hfv hcat
     go_upto_region 17 with (fail)
     rw [HX.out, HW4.out]; clear e0 e1 e2 HX HW4; refine wp_region_stepsM 14 (by kernel_rfl) rfl (by kernel_rfl) [some 54, some 55, some 56, some 57, some 58, some 59, some 60, some 61, some 62, some 63, some 64, some 65, some 66, some 67] rfl rfl 13 15 (fun q => (Value.slice ay nn cy).ownBlock = some q) (fun _ => False) [14] (by kernel_rfl) [0, 1, 2, 3, 4, 5, 6, 7, 8, 9, 10, 11, 12] (by kernel_rfl) (by decide) (by decide) (.inl (by decide)) [(fun v _ => v = (.slice ay nn cy)), (fun v _ => v = (.pointer (some ⟨X, 0, none⟩))), (fun v _ => v = (.string ⟨nm.toArray⟩)), (fun v _ => v = (.string (⟨#[102, 114, 97, 103, 109, 101, 110, 116, 32]⟩ ++ ⟨nm.toArray⟩))), (fun v _ => v = (.string ((⟨#[102, 114, 97, 103, 109, 101, 110, 116, 32]⟩ ++ ⟨nm.toArray⟩) ++ ⟨#[32, 111, 110, 32]⟩))), (fun v _ => v = (.pointer (some ⟨X, 1, none⟩))), (fun v _ => v = (.string ⟨on_.toArray⟩)), (fun v _ => v = (.string (((⟨#[102, 114, 97, 103, 109, 101, 110, 116, 32]⟩ ++ ⟨nm.toArray⟩) ++ ⟨#[32, 111, 110, 32]⟩) ++ ⟨on_.toArray⟩))), (fun v _ => v = (.pointer (some ⟨X, 2, none⟩))), (fun v _ => v = (.slice as_ ls cs_)), (fun v _ => v = (.string ⟨st.toArray⟩)), (fun v _ => v = (.string ((((⟨#[102, 114, 97, 103, 109, 101, 110, 116, 32]⟩ ++ ⟨nm.toArray⟩) ++ ⟨#[32, 111, 110, 32]⟩) ++ ⟨on_.toArray⟩) ++ ⟨st.toArray⟩))), (fun v w1 => ∃ g : Nat, v = .slice (some ⟨g, 0, none⟩) 1 1 ∧ w4.heap.size ≤ g ∧ g < w1.heap.size ∧ w1.cell? ⟨g, 0, none⟩ = some (.string ⟨tx.toArray⟩)), (fun v w1 => w1.ownsRow wb.heap.size 9 1 v (nn + 1) ((dd.ops.map (fun o => Value.string ⟨(ren (opI o)).toArray⟩) ++ (dd.frags.take j).map fun f => .string ⟨(ren (frI f)).toArray⟩) ++ [.string ⟨tx.toArray⟩]))] rfl ⟨?_, ?_, ?_, ?_, ?_, ?_, ?_, ?_, ?_, ?_, ?_, ?_, ?_, ?_, trivial⟩ _ rfl ⟨?_, ?_, ?_, ?_, ?_, ?_, ?_, ?_, ?_, ?_, ?_, ?_, ?_, ?_, trivial⟩ ?_
     iterate 12 exact Stable.is _ _
     ·intro v w1 w2 h ho; have ho : Only (fun q => (fun q => (Value.slice ay nn cy).ownBlock = some q) q ∨ (fun _ => False) q) w1 w2 := ho; exact (by obtain ⟨g, e1', e2', e3', e4'⟩ := h; have hng : ¬ (Value.slice ay nn cy).ownBlock = some g := fun hk => (by have := (HFV.out g hk).2; omega); exact ⟨g, e1', e2', Nat.lt_of_lt_of_le e3' ho.size, (cell_keep (p := ⟨g, 0, none⟩) ho e3' (fun hk => hng (by first | exact hk | exact hk.resolve_right (fun e => e)))).trans e4'⟩)
     ·intro v w1 w2 h ho; have ho : Only (fun _ => False) w1 w2 := ho; exact (by exact own_only' h ho (fun _ _ h => h))
     ·intro x wx ox hN TT HTT; have ox : Only (fun _ => False) _ wx := ox; unfold StepTo; simp only [putAll, Act.put, zA, zB, zC]; clear hN
      go_wp2_with fail
      exact ⟨rfl, _, rfl, HTT.out _ _ rfl oR⟩
     ·intro x wx ox hN TT HTT; have ox : Only (fun _ => False) _ wx := ox; unfold StepTo; simp only [putAll, Act.put, zA, zB, zC]; clear hN
      go_wp2_with fail
      exact ⟨rfl, _, rfl, HTT.out _ _ rfl oR⟩
     ·intro x wx ox hN TT HTT; have ox : Only (fun _ => False) _ wx := ox; unfold StepTo; simp only [putAll, Act.put, zA, zB, zC, eI (hN.1 rfl)]; clear hN; obtain ⟨x0, x1, x2, -⟩ := boxN3 ((ox.block X HX4L.out (fun h => by first | exact h | exact (HFV.out X h).2.2 rfl)).trans HX4.out)
      go_wp2_with fail
      exact ⟨rfl, _, rfl, HTT.out _ _ rfl oR⟩
     ·intro x wx ox hN TT HTT; have ox : Only (fun _ => False) _ wx := ox; unfold StepTo; simp only [putAll, Act.put, zA, zB, zC, eI (hN.1 rfl)]; clear hN
      go_wp2_with fail
      exact ⟨rfl, _, rfl, HTT.out _ _ rfl oR⟩
     ·intro x wx ox hN TT HTT; have ox : Only (fun _ => False) _ wx := ox; unfold StepTo; simp only [putAll, Act.put, zA, zB, zC, eI (hN.1 rfl)]; clear hN
      go_wp2_with fail
      exact ⟨rfl, _, rfl, HTT.out _ _ rfl oR⟩
     ·intro x wx ox hN TT HTT; have ox : Only (fun _ => False) _ wx := ox; unfold StepTo; simp only [putAll, Act.put, zA, zB, zC]; clear hN
      go_wp2_with fail
      exact ⟨rfl, _, rfl, HTT.out _ _ rfl oR⟩
     ·intro x wx ox hN TT HTT; have ox : Only (fun _ => False) _ wx := ox; unfold StepTo; simp only [putAll, Act.put, zA, zB, zC, eI (hN.1 rfl)]; clear hN; obtain ⟨x0, x1, x2, -⟩ := boxN3 ((ox.block X HX4L.out (fun h => by first | exact h | exact (HFV.out X h).2.2 rfl)).trans HX4.out)
      go_wp2_with fail
      exact ⟨rfl, _, rfl, HTT.out _ _ rfl oR⟩
     ·intro x wx ox hN TT HTT; have ox : Only (fun _ => False) _ wx := ox; unfold StepTo; simp only [putAll, Act.put, zA, zB, zC, eI (hN.1 rfl), eI (hN.2.1 rfl)]; clear hN
      go_wp2_with fail
      exact ⟨rfl, _, rfl, HTT.out _ _ rfl oR⟩
     ·intro x wx ox hN TT HTT; have ox : Only (fun _ => False) _ wx := ox; unfold StepTo; simp only [putAll, Act.put, zA, zB, zC]; clear hN
      go_wp2_with fail
      exact ⟨rfl, _, rfl, HTT.out _ _ rfl oR⟩
     ·intro x wx ox hN TT HTT; have ox : Only (fun _ => False) _ wx := ox; unfold StepTo; simp only [putAll, Act.put, zA, zB, zC, eI (hN.1 rfl)]; clear hN; obtain ⟨x0, x1, x2, -⟩ := boxN3 ((ox.block X HX4L.out (fun h => by first | exact h | exact (HFV.out X h).2.2 rfl)).trans HX4.out)
      go_wp2_with fail
      exact ⟨rfl, _, rfl, HTT.out _ _ rfl oR⟩
     ·intro x wx ox hN TT HTT; have ox : Only (fun _ => False) _ wx := ox; unfold StepTo; simp only [putAll, Act.put, zA, zB, zC, eI (hN.1 rfl)]; clear hN; have hoq : Only (fun _ => False) w wx := (HOB.out.trans HO4.out.drew).trans' ox (fun q hq h => by first | exact h | (have := (HFV.out q h).1; have := HOB.out.size; omega)); have J := hid (HJS.out wx hoq); clear hoq
      go_wp2_with fail
      refine J.out.mono ?_
      rintro e w6 ⟨rfl, o6⟩; have O6 := hid o6; clear o6
      go_wp2_with fail
      exact ⟨rfl, _, rfl, HTT.out _ _ rfl (O6.out)⟩
     ·intro x wx ox hN TT HTT; have ox : Only (fun _ => False) _ wx := ox; unfold StepTo; simp only [putAll, Act.put, zA, zB, zC, eI (hN.1 rfl), eI (hN.2.1 rfl)]; clear hN
      go_wp2_with fail
      exact ⟨rfl, _, rfl, HTT.out _ _ rfl oR⟩
     ·intro x wx ox hN TT HTT; have ox : Only (fun _ => False) _ wx := ox; unfold StepTo; simp only [putAll, Act.put, zA, zB, zC, eI (hN.1 rfl)]; clear hN; have hn := heap_new wx (.cells #[.string ((((⟨#[102, 114, 97, 103, 109, 101, 110, 116, 32]⟩ ++ ⟨nm.toArray⟩) ++ ⟨#[32, 111, 110, 32]⟩) ++ ⟨on_.toArray⟩) ++ ⟨st.toArray⟩)] 9); have on := (Only.refl (fun _ => False) wx).alloc (.cells #[.string ((((⟨#[102, 114, 97, 103, 109, 101, 110, 116, 32]⟩ ++ ⟨nm.toArray⟩) ++ ⟨#[32, 111, 110, 32]⟩) ++ ⟨on_.toArray⟩) ++ ⟨st.toArray⟩)] 9); have hgl : w4.heap.size ≤ wx.heap.size := ox.size; have hcl : (wx.alloc (.cells #[.string ((((⟨#[102, 114, 97, 103, 109, 101, 110, 116, 32]⟩ ++ ⟨nm.toArray⟩) ++ ⟨#[32, 111, 110, 32]⟩) ++ ⟨on_.toArray⟩) ++ ⟨st.toArray⟩)] 9)).cell? ⟨wx.heap.size, 0, none⟩ = some (.string ⟨tx.toArray⟩) := by
       simp only [World.cell?, hn]; rw [HCAT.out]; rfl
      have HCL := hid hcl; have ON := hid on; have HGL2 := hid hgl; clear hn on hgl hcl
      go_wp2_with fail
      exact ⟨rfl, _, rfl, HTT.out _ _ (⟨wx.heap.size, rfl, HGL2.out, by simp, HCL.out⟩) (ON.out)⟩
     ·intro x wx ox hN TT HTT; have ox : Only (fun _ => False) _ wx := ox; have r66 : (fun (v : Value) (w1 : World) => ∃ g : Nat, v = .slice (some ⟨g, 0, none⟩) 1 1 ∧ w4.heap.size ≤ g ∧ g < w1.heap.size ∧ w1.cell? ⟨g, 0, none⟩ = some (.string ⟨tx.toArray⟩)) (x 12) wx := hN.2.1 rfl; unfold StepTo; simp only [putAll, Act.put, zA, zB, zC, eI (hN.1 rfl), eI (hN.2.2.1 rfl)]; clear hN; obtain ⟨g, e1', e2', e3', e4'⟩ := r66; simp only [e1']; have hown := own_only' HOWN4.out (((Only.refl (fun _ => False) w4).drew).trans ox) (fun _ _ h => h); have hys : ∀ j u, ([.string ⟨tx.toArray⟩] : List Value)[j]? = some u → wx.cell? ((⟨g, 0, none⟩ : Addr).add j) = some u := fun j u hu => by
       match j, hu with
       | 0, hu => rw [addr_add]; injection hu with hu; rw [← hu]; exact e4'
      have hsl : wb.heap.size ≤ wx.heap.size := Nat.le_trans HB4.out ox.size; have HP1 := hid hown; have HYS := hid hys; have HSL := hid hsl; clear hown hys hsl e4' e1'
      go_wp2_with ((refine wpList_append_own2 (o := ⟨some 67, _, _, _, _, _⟩) rfl (.tmp 54) (.tmp 66) 32 9 (by rfl) Tryz.underlying32 infoStrQ rfl (by decide) wb.heap.size (.slice ay nn cy) nn 1 1 (dd.ops.map (fun o => Value.string ⟨(ren (opI o)).toArray⟩) ++ (dd.frags.take j).map fun f => .string ⟨(ren (frI f)).toArray⟩) [.string ⟨tx.toArray⟩] ⟨g, 0, none⟩ (by rfl) (by rfl) HP1.out (by rfl) HYS.out (by intro u hu; simp at hu; subst hu; rfl) (by unfold maxLen; omega) (by omega) HSL.out ?_; intro v' w9 q1 q2 q3))
      exact ⟨rfl, _, rfl, HTT.out _ _ (q1) (q2)⟩
     intro xz wxz oxz hN; have oxz : Only (fun q => (fun q => (Value.slice ay nn cy).ownBlock = some q) q ∨ (fun _ => False) q) _ wxz := oxz; have r66 : (fun (v : Value) (w1 : World) => ∃ g : Nat, v = .slice (some ⟨g, 0, none⟩) 1 1 ∧ w4.heap.size ≤ g ∧ g < w1.heap.size ∧ w1.cell? ⟨g, 0, none⟩ = some (.string ⟨tx.toArray⟩)) (xz 12) wxz := hN.2.2.2.2.2.2.2.2.2.2.2.2.1; have r67 : (fun (v : Value) (w1 : World) => w1.ownsRow wb.heap.size 9 1 v (nn + 1) ((dd.ops.map (fun o => Value.string ⟨(ren (opI o)).toArray⟩) ++ (dd.frags.take j).map fun f => .string ⟨(ren (frI f)).toArray⟩) ++ [.string ⟨tx.toArray⟩])) (xz 13) wxz := hN.2.2.2.2.2.2.2.2.2.2.2.2.2.1; simp only [putAll, Act.put, zA, zB, zC, eI hN.1, eI hN.2.1, eI hN.2.2.1, eI hN.2.2.2.1, eI hN.2.2.2.2.1, eI hN.2.2.2.2.2.1, eI hN.2.2.2.2.2.2.1, eI hN.2.2.2.2.2.2.2.1, eI hN.2.2.2.2.2.2.2.2.1, eI hN.2.2.2.2.2.2.2.2.2.1, eI hN.2.2.2.2.2.2.2.2.2.2.1, eI hN.2.2.2.2.2.2.2.2.2.2.2.1]; clear hN; have hoo : Only (fun _ => False) wb wxz := (HO4.out.drew).trans' oxz (fun q hq h => by rcases h with h | h; (have := (HFV.out q h).1; omega); exact h); have hrow : wxz.ownsRow wb.heap.size 9 1 (xz 13) (i + (j + 1)) (dd.ops.map (fun o => Value.string ⟨(ren (opI o)).toArray⟩) ++ (dd.frags.take (j + 1)).map fun f => .string ⟨(ren (frI f)).toArray⟩) := by
      rw [List.take_succ_eq_append_getElem hvj, List.map_append, List.map_singleton, HTX.out, ← List.append_assoc, show i + (j + 1) = nn + 1 by have := HNN.out; omega]; exact r67
     have HNEW := hid (And.intro (show j + 1 ≤ LF by omega) (And.intro hoo hrow)); clear hoo hrow r67 oxz
     go_wp2_with fail
     go_roundw
     case rel => exact ⟨j + 1, by simp, HNEW⟩
     case measure => simp [intOf]; omega
    ·have t1 : decide ((j : Int) < (LF : Int)) = false := decide_eq_false (by omega); have hjL : j = LF := by omega
     subst hjL; have htk : dd.frags.take j = dd.frags := by rw [← HLF.out]; exact List.take_length
     have hall : dd.ops.map (fun o => Value.string ⟨(ren (opI o)).toArray⟩) ++ (dd.frags.take j).map (fun f => Value.string ⟨(ren (frI f)).toArray⟩) = bs.map fun b => Value.string ⟨b.toArray⟩ := by
      rw [htk, ← HBS.out, List.map_append, List.map_map, List.map_map]; rfl
     have hown := HOWN.out; rw [hall] at hown; have hbl : bs.length = nn := by rw [HBL.out]; exact HNN.out
     by_cases h0 : nn = 0
     ·subst h0; have J := hid (Tryz.strings_Join_none ay cy ⟨#[32]⟩ wr); have hre : R = [] := by
       rw [← HR.out, List.eq_nil_of_length_eq_zero hbl]; rfl
      have HRE := hid hre; clear hre htk hall hown hbl HKF HKO
      go_wp2_with fail
      refine J.out.mono ?_
      rintro e w9 ⟨rfl, rfl⟩
      go_wp2_with fail
      go_ret
      exact ⟨by rw [HRE.out]; rfl, HOB.out.trans HO2.out⟩
     ·obtain ⟨g2, c2, e2, hBg, hgw, hrg⟩ := own_range hown (by omega)
      injection e2 with e2 e2' e2''
      subst e2; have hlen2 : ((bs.map fun z => (⟨z.toArray⟩ : ByteArray)).length) = nn := by rw [List.length_map, hbl]
      have hdat : (bs.map fun z => (⟨z.toArray⟩ : ByteArray)).map (·.data.toList) = bs := by
       rw [List.map_map]; have e : bs.map ((fun x : ByteArray => x.data.toList) ∘ fun z => (⟨z.toArray⟩ : ByteArray)) = bs.map id := List.map_congr_left (fun z _ => rfl); rw [e, List.map_id]
      have J := Tryz.strings_Join g2 0 cy (bs.map fun z => (⟨z.toArray⟩ : ByteArray)) ⟨#[32]⟩ wr (fun j x hj => by
       rw [List.getElem?_map] at hj; obtain ⟨z, hz, rfl⟩ : ∃ z, bs[j]? = some z ∧ (⟨z.toArray⟩ : ByteArray) = x := by
        cases hq : bs[j]? with
        | none => rw [hq] at hj; cases hj
        | some z => rw [hq] at hj; injection hj with hj; exact ⟨z, rfl, hj⟩
       exact hrg j _ (by rw [List.getElem?_map, hz]; rfl)) hgw (by rw [hlen2]; have := HNN.out; omega) (by rw [hlen2]; omega) (by rw [hdat]; show (Lib.join bs [32]).length ≤ _; have := HLL.out; omega)
      rw [hlen2, hdat] at J; have J : Calls Tryz.prog 48 #[.slice (some ⟨g2, 0, none⟩) nn cy, .string ⟨#[32]⟩] wr fun e w' => e = .returned (.string ⟨(Lib.join bs [32]).toArray⟩) ∧ Below wr.heap.size wr w' := J
      rw [HR.out] at J; have J := hid J; clear hlen2 hdat hrg e2' e2'' htk hall hown hbl HKF HKO
      go_wp2_with fail
      refine J.out.mono ?_
      rintro e w9 ⟨rfl, ob⟩; have HO9 := hid ((HOB.out.trans HO2.out).trans (Only.ofBelow ob _)); clear ob
      go_wp2_with fail
      go_ret
      exact ⟨rfl, HO9.out⟩
end Go.Proofs.YtnkpoddbbdmipaaGreatDoor
