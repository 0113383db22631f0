/- . -/
import Derived.Test.YtnkpoddbbdmipaaGreatDoorTDcPrs
import Derived.Test.YtnkpoddbbdmipaaGreatDoorTDcSmd
namespace Go.Proofs.YtnkpoddbbdmipaaGreatDoor
open Go Go.RowKit
open Go.Lib (hid)
set_option linter.unusedVariables false
set_option linter.unusedSimpArgs false
theorem spc_ren : ren [.sp 32] = [32] := rfl
theorem var_ren (v : VD) : ren (varI v) = [36] ++ inpB v.name v.t v.has v.v := by
 unfold varI; rw [ren_cons, inp_ren]; simp [ren, It.src, sgI, nmI]
theorem op_ren (mu : Bool) (nm : List UInt8) (vds : List VD) (sub : List SL) : ren (opI ⟨mu, nm, vds, sub⟩) = (if mu then [109, 117, 116, 97, 116, 105, 111, 110] else [113, 117, 101, 114, 121]) ++ (if nm = [] then [] else [32] ++ nm) ++ ren (parI (vds.map varI)) ++ ren (setI sub) := by
 unfold opI; rw [ren_cons, ren_app, ren_app]
 cases mu <;> by_cases h : nm = [] <;> simp [h, ren, It.src, nmI, wMutation, wQuery]
theorem fr_ren (f : FR) : ren (frI f) = [102, 114, 97, 103, 109, 101, 110, 116, 32] ++ f.name ++ [32, 111, 110, 32] ++ f.on_ ++ ren (setI f.sub) := by
 unfold frI; simp only [ren_cons]; simp [It.src, nmI, wFragment, wOn]
theorem goodI_wellP {n : List UInt8} {t : TR} {has : Bool} {v : VT} (h : GoodI n t has v) : has = true → WellV v := fun hh => by
 rcases h.2.2 with ⟨_, h⟩ | ⟨h, _⟩
 ·exact goodV_wellP true 24 v h
 ·rw [h] at hh; cases hh
set_option maxRecDepth 100000 in
set_option maxHeartbeats 64000000 in
theorem prD_any (dd : DC) (hg : GoodDoc dd) (G : Nat → Prop) (w : World) (x y : Value) (h : CellsAt w G (docC dd) [x, y]) (hl : (ren (docI dd)).length ≤ 1000000000000) :
  Calls Tryz.prog 14 #[.agg #[x, y]] w (fun e w' => e = .returned (.string ⟨(ren (docI dd)).toArray⟩) ∧ Only (fun _ => False) w w') := by
 obtain ⟨h1, h2⟩ := doc_cells h; obtain ⟨a, c, rfl, k1, k2, k3⟩ := rows_at h1; obtain ⟨p, r, rfl, l1, l2, l3⟩ := rows_at h2; obtain ⟨its, hits⟩ := eX (dd.ops.map opI ++ dd.frags.map frI); have hil : its.length = dd.ops.length + dd.frags.length := by rw [← hits, List.length_append, List.length_map, List.length_map]
 have hio : ∀ i (h : i < dd.ops.length) (h' : i < its.length), its[i] = opI dd.ops[i] := fun i h h' => by
  subst hits; rw [List.getElem_append_left (by rw [List.length_map]; exact h), List.getElem_map]
 have hif : ∀ i (h : i < dd.frags.length) (h' : dd.ops.length + i < its.length), its[dd.ops.length + i] = frI dd.frags[i] := fun i h h' => by
  subst hits; rw [List.getElem_append_right (by rw [List.length_map]; omega)]; simp
 have hdr : docI dd = sepI [.sp 32] its := by rw [← hits]; rfl
 rw [hdr] at hl ⊢; obtain ⟨R, hR⟩ := eX (ren (sepI [.sp 32] its)); rw [hR] at ⊢; obtain ⟨LO, hLO⟩ := eX (dd.ops.length); obtain ⟨LF, hLF⟩ := eX (dd.frags.length); rw [hLO] at k1 hil hif ⊢; rw [hLF] at l1 hil ⊢; obtain ⟨wz, hwz⟩ := eX (w.alloc (.cells #[.slice a LO c, .slice p LF r] 26)); have oz : Only (fun _ => False) w wz := by rw [← hwz]; exact (Only.refl _ w).alloc _
 obtain ⟨bD, hbD⟩ := eX (w.heap.size); have hx1 : wz.heap[bD]? = some (.cells #[.slice a LO c, .slice p LF r] 26 (0, 0)) := by rw [← hwz, ← hbD]; exact heap_new w _
 obtain ⟨z0, z1, -⟩ := boxN2 hx1; have HZ := hid (And.intro z0 z1); have HOZ := hid oz; have HWZ := hid hwz; have HBD := hid hbD; have HK := hid k3; have HF := hid l3; have HIL := hid hil; have HIO := hid hio; have HIF := hid hif; have HLL := hid hl; have HR := hid hR; have HLO := hid hLO; have HLF := hid hLF; have HGO := hid hg.1; have HGF := hid hg.2; clear h h1 h2 hg hl k3 l3 hits hil hio hif hdr hR hLO hLF oz hwz hbD hx1
 go_enter Tryz.func14, Tryz.ntmps14
 go_upto_region 1 with (fail)
 rw [HWZ.out, HBD.out]
 go_wp2_with fail
 clear z0 z1
 go_loopw [3, 4] (fun x y wr => ∃ i : Nat, y = .int .i64 (i : Int) ∧ i ≤ LO ∧ x = .string ⟨(ren (sepI [.sp 32] (its.take i))).toArray⟩ ∧ Hid (Only (fun _ => False) wz wr)) (fun _ y _ => LO - (intOf y).toNat)
 case atStart => exact ⟨0, rfl, by omega, by rw [sep_zero], hid oR⟩
 case round =>
  obtain ⟨i, rfl, hi, rfl, HO⟩ := hrel; obtain ⟨z0, z1⟩ := HZ.out; have z0 := keepc HO.out z0; have z1 := keepc HO.out z1; have hal := Nat.le_trans (sep_le [.sp 32] its i) HLL.out
  by_cases hlt : i < LO
  ·have t1 : decide ((i : Int) < (LO : Int)) = true := decide_eq_true (by omega); have hi0 : (0 : Int) ≤ (i : Int) := by omega
   have hi1 : (i : Int) < (LO : Int) := by omega
   have hvi : i < dd.ops.length := by rw [HLO.out]; exact hlt
   have hii : i < its.length := by rw [HIL.out]; omega
   have hnx := sep_next [.sp 32] its i hii; have hnl := Nat.le_trans (sep_le [.sp 32] its (i + 1)) HLL.out; have hitem := HIO.out i hvi hii; have hgo := HGO.out dd.ops[i] (List.getElem_mem hvi); obtain ⟨gt, ot, xs, rfl, -, q1, q2⟩ := HK.out i hvi; obtain ⟨op, hop⟩ := eX (dd.ops[i]); rw [hop] at hitem hgo q2; obtain ⟨mu, nm, vds, sub⟩ := op; rw [hitem, op_ren] at hnx; obtain ⟨vv, sv, rfl, hv, hs⟩ := op_cells q2; have hgv := hgo.2.1; have hgs := hgo.2.2; simp only at hgv hgs hv hs q1; have hsa := fun (hle : (ren (setI sub)).length ≤ 1000000000000) (wx : World) (ox : Only (fun _ => False) w wx) => prS_any 24 sub hgs G wx sv (CellAt.only ox (fun _ _ h => h) _ _ hs) hle
   obtain ⟨av, cv, rfl, n1, n2, n3⟩ := rows_at hv; obtain ⟨as_, cs_, rfl, -, -, -⟩ := rows_at hs; obtain ⟨LV, hLV⟩ := eX (vds.length); obtain ⟨LS, hLS⟩ := eX (sub.length); rw [hLV] at q1 n1; rw [hLS] at hsa q1; have HOW := hid (HOZ.out.trans HO.out); obtain ⟨e0, e1, e2, e3⟩ := cells4_of q1; have e0 := keepc HOW.out e0; have e1 := keepc HOW.out e1; have e2 := keepc HOW.out e2; have e3 := keepc HOW.out e3; obtain ⟨vits, hvits⟩ := eX (vds.map varI); have hvl : vits.length = LV := by rw [← hvits, List.length_map, hLV]
   have hvg : ∀ j (h : j < vds.length) (h' : j < vits.length), ren vits[j] = [36] ++ inpB vds[j].name vds[j].t vds[j].has vds[j].v := fun j h h' => by subst hvits; rw [List.getElem_map, var_ren]
   rw [hvits] at hnx; obtain ⟨acc, hacc⟩ := eX (ren (sepI [.sp 32] (its.take i))); obtain ⟨acc', hacc'⟩ : ∃ a, ren (sepI [.sp 32] (its.take (i + 1))) = a := ⟨_, rfl⟩; have HA' := hid hacc'; rw [hacc] at hal hnx ⊢; rw [hacc'] at hnx hnl; have HND := hid n3; have HLV := hid hLV; have HVL := hid hvl; have HVG := hid hvg; have HSA := hid hsa; have HGV := hid hgv; have HNL := hid hnl; have HNX0 := hid hnx; clear hacc hacc' hitem q1 q2 hv hs n3 hLV hLS hvits hvl hvg hsa hgv hgs hgo hop hnx hnl z1; have hnx := HNX0.out; have hnl := HNL.out; rw [spc_ren] at hnx; obtain ⟨p1_, hp1⟩ : ∃ q : List UInt8, acc ++ (if 0 < i then [32] else []) = q := ⟨_, rfl⟩; obtain ⟨p2_, hp2⟩ : ∃ q : List UInt8, p1_ ++ (if mu = true then [109, 117, 116, 97, 116, 105, 111, 110] else [113, 117, 101, 114, 121]) = q := ⟨_, rfl⟩; obtain ⟨pre, hp3⟩ : ∃ q : List UInt8, p2_ ++ (if nm = [] then [] else [32] ++ nm) = q := ⟨_, rfl⟩; have hnx2 : acc' = pre ++ ren (parI vits) ++ ren (setI sub) := by rw [hnx, ← hp3, ← hp2, ← hp1]; simp only [List.append_assoc]
   rw [hnx2] at hnl; simp only [List.length_append] at hnl; have hpl : pre.length ≤ 1000000000000 := by omega
   have hp2l : p2_.length ≤ 1000000000000 := by rw [← hp3, List.length_append] at hpl; omega
   have hp1l : p1_.length ≤ 1000000000000 := by rw [← hp2, List.length_append] at hp2l; omega
   have hpp : (pre ++ ren (parI vits)).length ≤ 1000000000000 := by rw [List.length_append]; omega
   have hss : (ren (setI sub)).length ≤ 1000000000000 := by omega
   have hnml : nm = [] ∨ nm.length ≤ 1000000000000 := by
    by_cases h : nm = []
    ·exact .inl h
    ·rw [← hp3, if_neg h] at hpl; simp only [List.length_append] at hpl; exact .inr (by omega)
   have HP1 := hid hp1; have HP2 := hid hp2; have HP3 := hid hp3; have HNX := hid hnx2; have HPP := hid hpp; have HS2 := hid (HSA.out hss); have HEND := hid (parB_end pre vits); have HNM := hid hnml
   generalize ren (setI sub) = rs at *
   clear hnx hnx2 hp1 hp2 hp3 hpp hnl hnml; obtain ⟨bA, hbA⟩ := eX (wr.heap.size); obtain ⟨wb, hwb⟩ := eX (wr.alloc (.cells #[.bool mu, .string ⟨nm.toArray⟩, .slice av LV cv, .slice as_ LS cs_] 56)); have hx1 : wb.heap[bA]? = some (.cells #[.bool mu, .string ⟨nm.toArray⟩, .slice av LV cv, .slice as_ LS cs_] 56 (0, 0)) := by rw [← hwb, ← hbA]; exact heap_new wr _
   have ob : Only (fun _ => False) wr wb := by rw [← hwb]; exact (Only.refl _ wr).alloc _
   obtain ⟨c0, c1, c2, c3, -⟩ := boxN4 hx1; have HC := hid (And.intro c2 c3); have HOB := hid (HOW.out.trans ob); have HZB := hid (HO.out.trans ob); have HWB := hid hwb; have HBA := hid hbA; clear hx1 ob hwb hbA
   go_upto_region 6 with (fail)
   rw [HWB.out, HBA.out]; clear e0 e1 e2 e3 z0
   go_upto_if 21 with (fail)
   go_cut [3] from 20 to 23 (fun v w' => v = .string ⟨p1_.toArray⟩ ∧ wb = w')
   case first =>
    by_cases hz : 0 < i
    ·have tz : decide ((i : Int) > 0) = true := decide_eq_true (by omega); have hp := HP1.out; rw [if_pos hz] at hp; have HH := hid hp; clear hp
     go_wp2_with fail
     go_meet
     case rel => exact ⟨by rw [← HH.out]; simp only [← cat_list], rfl⟩
    have tz : decide ((i : Int) > 0) = false := decide_eq_false (by omega); have hp := HP1.out; rw [if_neg hz, List.append_nil] at hp; have HH := hid hp; clear hp
    go_wp2_with fail
    go_meet
    case rel => exact ⟨by rw [← HH.out]; skip, rfl⟩
   case rest =>
   obtain ⟨rfl, rfl⟩ := hcut
   go_upto_if 25 with (fail)
   go_cut [3] from 24 to 29 (fun v w' => v = .string ⟨p2_.toArray⟩ ∧ wb = w')
   case first =>
    cases mu with
    | true =>
     have hp := HP2.out; rw [if_pos rfl] at hp; have HH := hid hp; clear hp
     go_wp2_with fail
     go_meet
     case rel => exact ⟨by rw [← HH.out]; simp only [← cat_list], rfl⟩
    | false =>
     have hp := HP2.out; rw [if_neg (by decide)] at hp; have HH := hid hp; clear hp
     go_wp2_with fail
     go_meet
     case rel => exact ⟨by rw [← HH.out]; simp only [← cat_list], rfl⟩
   case rest =>
   obtain ⟨rfl, rfl⟩ := hcut
   go_upto_if 32 with (fail)
   go_cut [3] from 30 to 37 (fun v w' => v = .string ⟨pre.toArray⟩ ∧ wb = w')
   case first =>
    by_cases hn : nm = []
    ·have hp := HP3.out; rw [if_pos hn, List.append_nil] at hp; have HH := hid hp; clear hp; subst hn
     go_wp2_with fail
     go_meet
     case rel => exact ⟨by rw [← HH.out], rfl⟩
    ·have hp := HP3.out; rw [if_neg hn] at hp; have HH := hid hp; clear hp; have hnl := HNM.out.resolve_left hn; have x1 : (nm == []) = false := by simpa using hn
     have x2 : (nm != []) = true := by simpa using hn
     have x3 : nm.isEmpty = false := by cases nm with | nil => exact absurd rfl hn | cons _ _ => rfl
     have x4 : (!nm.isEmpty) = true := by rw [x3]; rfl
     have HN := hid hn; clear hn
     go_wp2_with fail
     case neg hneg => exact absurd (hneg.symm.trans x4) (by decide)
     go_meet
     case rel => exact ⟨by rw [← HH.out]; simp only [← cat_list], rfl⟩
   case rest =>
   obtain ⟨rfl, rfl⟩ := hcut
   go_wp2_with fail
   clear c0 c1 c2 c3
   go_loopw [3, 6] (fun x y w8 => ∃ j : Nat, y = .int .i64 (j : Int) ∧ j ≤ LV ∧ x = .string ⟨(parB pre vits j).toArray⟩ ∧ Hid (Only (fun _ => False) wb w8)) (fun _ y _ => LV - (intOf y).toNat)
   case atStart => exact ⟨0, rfl, by omega, by unfold parB; rw [if_pos rfl, List.append_nil], hid oR⟩
   case round =>
    obtain ⟨j, rfl, hj, rfl, HP⟩ := hrel; obtain ⟨c2, c3⟩ := HC.out; have c2 := keepc HP.out c2; have c3 := keepc HP.out c3; have hal2 := Nat.le_trans (parB_le pre vits j (by rw [HVL.out]; omega)) HPP.out
    by_cases hltj : j < LV
    ·have t4 : decide ((j : Int) < (LV : Int)) = true := decide_eq_true (by omega); have hj0 : (0 : Int) ≤ (j : Int) := by omega
     have hj1 : (j : Int) < (LV : Int) := by omega
     have hjl : j < vds.length := by rw [HLV.out]; exact hltj
     have hjm : j < vits.length := by rw [HVL.out]; exact hltj
     have hpn := parB_next pre vits j hjm; have hpl2 := Nat.le_trans (parB_le pre vits (j + 1) (by rw [HVL.out]; omega)) HPP.out; rw [HVG.out j hjl hjm] at hpn; rw [hpn] at hpl2; simp only [List.length_append, List.length_cons, List.length_nil] at hpl2; have hgi := HGV.out vds[j] (List.getElem_mem hjl); obtain ⟨gd, od, ys, rfl, -, p1, p2⟩ := HND.out j hjl; obtain ⟨ts, us, rfl, ht, hu⟩ := vd_cells p2; have hil2 : (inpB vds[j].name vds[j].t vds[j].has vds[j].v).length ≤ 1000000000000 := by omega
     have hrec := fun (wx : World) (ox : Only (fun _ => False) w wx) => prI_any vds[j].name vds[j].t vds[j].has vds[j].v (goodI_wellP hgi) G wx ts us (CellsAt.only ox (fun _ _ h => h) _ _ ht) (CellsAt.only ox (fun _ _ h => h) _ _ hu) hil2
     obtain ⟨s1, a1, m1, c1, b1, rfl⟩ := trC_form2 ht; obtain ⟨vk, vn, vs, va, vl, vc, va2, vl2, vc2, rfl⟩ := valC_form2 hu; obtain ⟨f0, f1, f2, f3, f4, f5, f6, f7, f8, f9⟩ := cells10_of p1
     generalize inpB vds[j].name vds[j].t vds[j].has vds[j].v = ib at *
     generalize vds[j].name = dn at *
     generalize vds[j].has = dh at *
     obtain ⟨Q, hQ⟩ := eX (parB pre vits j); obtain ⟨Q', hQ'⟩ : ∃ Q, parB pre vits (j + 1) = Q := ⟨_, rfl⟩; rw [hQ] at hal2 hpn ⊢; rw [hQ'] at hpn; have HPN := hid hpn; have HQ' := hid hQ'; have oww : Only (fun _ => False) w wr := HOB.out.trans HP.out; have HX := hid (fun (wx : World) (ox : Only (fun _ => False) wr.drew wx) => have o := (Only.refl _ wr).drew.trans ox; have ow := oww.trans o; And.intro (keepc o c2) (And.intro (keepc ow f0) (And.intro (keepc ow f1) (And.intro (keepc ow f2) (And.intro (keepc ow f3) (And.intro (keepc ow f4) (And.intro (keepc ow f5) (And.intro (keepc ow f6) (And.intro (keepc ow f7) (And.intro (keepc ow f8) (keepc ow f9))))))))))); have HREC := hid (fun (wx : World) (ox : Only (fun _ => False) wr.drew wx) => hrec wx (oww.trans ((Only.refl _ wr).drew.trans ox))); clear hQ hQ' hpn hpl2 hgi hrec p1 p2 ht hu oww f0 f1 f2 f3 f4 f5 f6 f7 f8 f9 c3
     by_cases hzj : j = 0
     ·have t5 : ((j : Int) == 0) = true := by simp; omega
      rw [if_pos hzj] at HPN; clear hzj
      go_upto_region 19 with (fail)
      clear c2
      refine wp_region_steps 28 (by kernel_rfl) rfl (by kernel_rfl) [some 51, some 52, some 53, some 54, some 55, some 56, some 57, some 58, some 59, some 60, some 61, some 62, some 63, some 64, some 65, some 66, some 67, some 68, some 69, some 70, some 71, some 72, some 73, some 74, some 75, some 76, some 77, some 78] rfl rfl (fun _ => False) [(fun v _ => v = (.string (⟨Q.toArray⟩ ++ ⟨#[40]⟩))), (fun v _ => v = (.pointer (some ⟨bA, 2, none⟩))), (fun v _ => v = (.slice (some ⟨gd, od, none⟩) LV cv)), (fun v _ => v = (.int .i64 (j : Int))), (fun v _ => v = (.pointer (some ⟨gd, od + j * 10, none⟩))), (fun v _ => v = (.pointer (some ⟨gd, od + j * 10, none⟩))), (fun v _ => v = (.string ⟨dn.toArray⟩)), (fun v _ => v = (.pointer (some ⟨bA, 2, none⟩))), (fun v _ => v = (.slice (some ⟨gd, od, none⟩) LV cv)), (fun v _ => v = (.int .i64 (j : Int))), (fun v _ => v = (.pointer (some ⟨gd, od + j * 10, none⟩))), (fun v _ => v = (.pointer (some ⟨gd, od + j * 10 + 1, none⟩))), (fun v _ => v = (.agg #[.string ⟨s1.toArray⟩, .slice a1 m1 c1, .bool b1])), (fun v _ => v = (.pointer (some ⟨bA, 2, none⟩))), (fun v _ => v = (.slice (some ⟨gd, od, none⟩) LV cv)), (fun v _ => v = (.int .i64 (j : Int))), (fun v _ => v = (.pointer (some ⟨gd, od + j * 10, none⟩))), (fun v _ => v = (.pointer (some ⟨gd, od + j * 10 + 4, none⟩))), (fun v _ => v = (.bool dh)), (fun v _ => v = (.pointer (some ⟨bA, 2, none⟩))), (fun v _ => v = (.slice (some ⟨gd, od, none⟩) LV cv)), (fun v _ => v = (.int .i64 (j : Int))), (fun v _ => v = (.pointer (some ⟨gd, od + j * 10, none⟩))), (fun v _ => v = (.pointer (some ⟨gd, od + j * 10 + 5, none⟩))), (fun v _ => v = (.agg #[.int .u8 (vk : Int), .int .i64 vn, .string ⟨vs.toArray⟩, .slice va vl vc, .slice va2 vl2 vc2])), (fun v _ => v = (.string ⟨ib.toArray⟩)), (fun v _ => v = (.string (⟨#[36]⟩ ++ ⟨ib.toArray⟩))), (fun v _ => v = (.string (⟨Q.toArray⟩ ++ ⟨#[40]⟩ ++ (⟨#[36]⟩ ++ ⟨ib.toArray⟩))))] rfl ⟨?_, ?_, ?_, ?_, ?_, ?_, ?_, ?_, ?_, ?_, ?_, ?_, ?_, ?_, ?_, ?_, ?_, ?_, ?_, ?_, ?_, ?_, ?_, ?_, ?_, ?_, ?_, ?_, trivial⟩ _ rfl ⟨?_, ?_, ?_, ?_, ?_, ?_, ?_, ?_, ?_, ?_, ?_, ?_, ?_, ?_, ?_, ?_, ?_, ?_, ?_, ?_, ?_, ?_, ?_, ?_, ?_, ?_, ?_, ?_, trivial⟩ ?_
      iterate 28 exact Stable.is _ _
      ·intro x wx ox hN TT HTT; unfold StepTo; simp only [putAll, Act.put, zA, zB, zC]; clear hN
       go_wp2_with fail
       exact ⟨rfl, _, rfl, HTT.out _ _ rfl oR⟩
      ·intro x wx ox hN TT HTT; unfold StepTo; simp only [putAll, Act.put, zA, zB, zC]; clear hN
       go_wp2_with fail
       exact ⟨rfl, _, rfl, HTT.out _ _ rfl oR⟩
      ·intro x wx ox hN TT HTT; unfold StepTo; simp only [putAll, Act.put, zA, zB, zC, eI (hN.1 rfl)]; clear hN; obtain ⟨mm0, mm1, mm2, mm3, mm4, mm5, mm6, mm7, mm8, mm9, mm10⟩ := HX.out wx ox
       go_wp2_with fail
       exact ⟨rfl, _, rfl, HTT.out _ _ rfl oR⟩
      ·intro x wx ox hN TT HTT; unfold StepTo; simp only [putAll, Act.put, zA, zB, zC]; clear hN
       go_wp2_with fail
       exact ⟨rfl, _, rfl, HTT.out _ _ rfl oR⟩
      ·intro x wx ox hN TT HTT; unfold StepTo; simp only [putAll, Act.put, zA, zB, zC, eI (hN.1 rfl), eI (hN.2.1 rfl)]; clear hN
       go_wp2_with fail
       exact ⟨rfl, _, rfl, HTT.out _ _ rfl oR⟩
      ·intro x wx ox hN TT HTT; unfold StepTo; simp only [putAll, Act.put, zA, zB, zC, eI (hN.1 rfl)]; clear hN
       go_wp2_with fail
       exact ⟨rfl, _, rfl, HTT.out _ _ rfl oR⟩
      ·intro x wx ox hN TT HTT; unfold StepTo; simp only [putAll, Act.put, zA, zB, zC, eI (hN.1 rfl)]; clear hN; obtain ⟨mm0, mm1, mm2, mm3, mm4, mm5, mm6, mm7, mm8, mm9, mm10⟩ := HX.out wx ox
       go_wp2_with fail
       exact ⟨rfl, _, rfl, HTT.out _ _ rfl oR⟩
      ·intro x wx ox hN TT HTT; unfold StepTo; simp only [putAll, Act.put, zA, zB, zC]; clear hN
       go_wp2_with fail
       exact ⟨rfl, _, rfl, HTT.out _ _ rfl oR⟩
      ·intro x wx ox hN TT HTT; unfold StepTo; simp only [putAll, Act.put, zA, zB, zC, eI (hN.1 rfl)]; clear hN; obtain ⟨mm0, mm1, mm2, mm3, mm4, mm5, mm6, mm7, mm8, mm9, mm10⟩ := HX.out wx ox
       go_wp2_with fail
       exact ⟨rfl, _, rfl, HTT.out _ _ rfl oR⟩
      ·intro x wx ox hN TT HTT; unfold StepTo; simp only [putAll, Act.put, zA, zB, zC]; clear hN
       go_wp2_with fail
       exact ⟨rfl, _, rfl, HTT.out _ _ rfl oR⟩
      ·intro x wx ox hN TT HTT; unfold StepTo; simp only [putAll, Act.put, zA, zB, zC, eI (hN.1 rfl), eI (hN.2.1 rfl)]; clear hN
       go_wp2_with fail
       exact ⟨rfl, _, rfl, HTT.out _ _ rfl oR⟩
      ·intro x wx ox hN TT HTT; unfold StepTo; simp only [putAll, Act.put, zA, zB, zC, eI (hN.1 rfl)]; clear hN
       go_wp2_with fail
       exact ⟨rfl, _, rfl, HTT.out _ _ rfl oR⟩
      ·intro x wx ox hN TT HTT; unfold StepTo; simp only [putAll, Act.put, zA, zB, zC, eI (hN.1 rfl)]; clear hN; obtain ⟨mm0, mm1, mm2, mm3, mm4, mm5, mm6, mm7, mm8, mm9, mm10⟩ := HX.out wx ox
       go_wp2_with fail
       exact ⟨rfl, _, rfl, HTT.out _ _ rfl oR⟩
      ·intro x wx ox hN TT HTT; unfold StepTo; simp only [putAll, Act.put, zA, zB, zC]; clear hN
       go_wp2_with fail
       exact ⟨rfl, _, rfl, HTT.out _ _ rfl oR⟩
      ·intro x wx ox hN TT HTT; unfold StepTo; simp only [putAll, Act.put, zA, zB, zC, eI (hN.1 rfl)]; clear hN; obtain ⟨mm0, mm1, mm2, mm3, mm4, mm5, mm6, mm7, mm8, mm9, mm10⟩ := HX.out wx ox
       go_wp2_with fail
       exact ⟨rfl, _, rfl, HTT.out _ _ rfl oR⟩
      ·intro x wx ox hN TT HTT; unfold StepTo; simp only [putAll, Act.put, zA, zB, zC]; clear hN
       go_wp2_with fail
       exact ⟨rfl, _, rfl, HTT.out _ _ rfl oR⟩
      ·intro x wx ox hN TT HTT; unfold StepTo; simp only [putAll, Act.put, zA, zB, zC, eI (hN.1 rfl), eI (hN.2.1 rfl)]; clear hN
       go_wp2_with fail
       exact ⟨rfl, _, rfl, HTT.out _ _ rfl oR⟩
      ·intro x wx ox hN TT HTT; unfold StepTo; simp only [putAll, Act.put, zA, zB, zC, eI (hN.1 rfl)]; clear hN
       go_wp2_with fail
       exact ⟨rfl, _, rfl, HTT.out _ _ rfl oR⟩
      ·intro x wx ox hN TT HTT; unfold StepTo; simp only [putAll, Act.put, zA, zB, zC, eI (hN.1 rfl)]; clear hN; obtain ⟨mm0, mm1, mm2, mm3, mm4, mm5, mm6, mm7, mm8, mm9, mm10⟩ := HX.out wx ox
       go_wp2_with fail
       exact ⟨rfl, _, rfl, HTT.out _ _ rfl oR⟩
      ·intro x wx ox hN TT HTT; unfold StepTo; simp only [putAll, Act.put, zA, zB, zC]; clear hN
       go_wp2_with fail
       exact ⟨rfl, _, rfl, HTT.out _ _ rfl oR⟩
      ·intro x wx ox hN TT HTT; unfold StepTo; simp only [putAll, Act.put, zA, zB, zC, eI (hN.1 rfl)]; clear hN; obtain ⟨mm0, mm1, mm2, mm3, mm4, mm5, mm6, mm7, mm8, mm9, mm10⟩ := HX.out wx ox
       go_wp2_with fail
       exact ⟨rfl, _, rfl, HTT.out _ _ rfl oR⟩
      ·intro x wx ox hN TT HTT; unfold StepTo; simp only [putAll, Act.put, zA, zB, zC]; clear hN
       go_wp2_with fail
       exact ⟨rfl, _, rfl, HTT.out _ _ rfl oR⟩
      ·intro x wx ox hN TT HTT; unfold StepTo; simp only [putAll, Act.put, zA, zB, zC, eI (hN.1 rfl), eI (hN.2.1 rfl)]; clear hN
       go_wp2_with fail
       exact ⟨rfl, _, rfl, HTT.out _ _ rfl oR⟩
      ·intro x wx ox hN TT HTT; unfold StepTo; simp only [putAll, Act.put, zA, zB, zC, eI (hN.1 rfl)]; clear hN
       go_wp2_with fail
       exact ⟨rfl, _, rfl, HTT.out _ _ rfl oR⟩
      ·intro x wx ox hN TT HTT; unfold StepTo; simp only [putAll, Act.put, zA, zB, zC, eI (hN.1 rfl)]; clear hN; obtain ⟨mm0, mm1, mm2, mm3, mm4, mm5, mm6, mm7, mm8, mm9, mm10⟩ := HX.out wx ox
       go_wp2_with fail
       exact ⟨rfl, _, rfl, HTT.out _ _ rfl oR⟩
      ·intro x wx ox hN TT HTT; unfold StepTo; simp only [putAll, Act.put, zA, zB, zC, eI (hN.1 rfl), eI (hN.2.1 rfl), eI (hN.2.2.1 rfl), eI (hN.2.2.2.1 rfl)]; clear hN; have ht := HREC.out wx ox; have HT := hid ht; clear ht
       go_wp2_with fail
       refine HT.out.mono ?_
       rintro e w6 ⟨rfl, o6⟩; have O6 := hid o6; clear o6
       go_wp2_with fail
       exact ⟨rfl, _, rfl, HTT.out _ _ rfl (O6.out)⟩
      ·intro x wx ox hN TT HTT; unfold StepTo; simp only [putAll, Act.put, zA, zB, zC, eI (hN.1 rfl)]; clear hN
       go_wp2_with fail
       exact ⟨rfl, _, rfl, HTT.out _ _ rfl oR⟩
      ·intro x wx ox hN TT HTT; unfold StepTo; simp only [putAll, Act.put, zA, zB, zC, eI (hN.1 rfl), eI (hN.2.1 rfl)]; clear hN
       go_wp2_with fail
       exact ⟨rfl, _, rfl, HTT.out _ _ rfl oR⟩
      intro xz wxz oxz hN; simp only [putAll, Act.put, zA, zB, zC, eI hN.1, eI hN.2.1, eI hN.2.2.1, eI hN.2.2.2.1, eI hN.2.2.2.2.1, eI hN.2.2.2.2.2.1, eI hN.2.2.2.2.2.2.1, eI hN.2.2.2.2.2.2.2.1, eI hN.2.2.2.2.2.2.2.2.1, eI hN.2.2.2.2.2.2.2.2.2.1, eI hN.2.2.2.2.2.2.2.2.2.2.1, eI hN.2.2.2.2.2.2.2.2.2.2.2.1, eI hN.2.2.2.2.2.2.2.2.2.2.2.2.1, eI hN.2.2.2.2.2.2.2.2.2.2.2.2.2.1, eI hN.2.2.2.2.2.2.2.2.2.2.2.2.2.2.1, eI hN.2.2.2.2.2.2.2.2.2.2.2.2.2.2.2.1, eI hN.2.2.2.2.2.2.2.2.2.2.2.2.2.2.2.2.1, eI hN.2.2.2.2.2.2.2.2.2.2.2.2.2.2.2.2.2.1, eI hN.2.2.2.2.2.2.2.2.2.2.2.2.2.2.2.2.2.2.1, eI hN.2.2.2.2.2.2.2.2.2.2.2.2.2.2.2.2.2.2.2.1, eI hN.2.2.2.2.2.2.2.2.2.2.2.2.2.2.2.2.2.2.2.2.1, eI hN.2.2.2.2.2.2.2.2.2.2.2.2.2.2.2.2.2.2.2.2.2.1, eI hN.2.2.2.2.2.2.2.2.2.2.2.2.2.2.2.2.2.2.2.2.2.2.1, eI hN.2.2.2.2.2.2.2.2.2.2.2.2.2.2.2.2.2.2.2.2.2.2.2.1, eI hN.2.2.2.2.2.2.2.2.2.2.2.2.2.2.2.2.2.2.2.2.2.2.2.2.1, eI hN.2.2.2.2.2.2.2.2.2.2.2.2.2.2.2.2.2.2.2.2.2.2.2.2.2.1, eI hN.2.2.2.2.2.2.2.2.2.2.2.2.2.2.2.2.2.2.2.2.2.2.2.2.2.2.1, eI hN.2.2.2.2.2.2.2.2.2.2.2.2.2.2.2.2.2.2.2.2.2.2.2.2.2.2.2.1]; clear hN; have OY := hid (HP.out.trans ((Only.refl _ wr).drew.trans oxz)); clear oxz
      go_wp2_with fail
      go_roundw
      case rel => exact ⟨j + 1, by simp, by omega, by rw [HQ'.out, HPN.out]; simp only [← cat_list], OY⟩
      case measure => simp [intOf]; omega
     have t5 : ((j : Int) == 0) = false := by simp; omega
     rw [if_neg hzj] at HPN; clear hzj
     go_upto_region 19 with (fail)
     clear c2
     refine wp_region_steps 28 (by kernel_rfl) rfl (by kernel_rfl) [some 51, some 52, some 53, some 54, some 55, some 56, some 57, some 58, some 59, some 60, some 61, some 62, some 63, some 64, some 65, some 66, some 67, some 68, some 69, some 70, some 71, some 72, some 73, some 74, some 75, some 76, some 77, some 78] rfl rfl (fun _ => False) [(fun v _ => v = (.string (⟨Q.toArray⟩ ++ ⟨#[44, 32]⟩))), (fun v _ => v = (.pointer (some ⟨bA, 2, none⟩))), (fun v _ => v = (.slice (some ⟨gd, od, none⟩) LV cv)), (fun v _ => v = (.int .i64 (j : Int))), (fun v _ => v = (.pointer (some ⟨gd, od + j * 10, none⟩))), (fun v _ => v = (.pointer (some ⟨gd, od + j * 10, none⟩))), (fun v _ => v = (.string ⟨dn.toArray⟩)), (fun v _ => v = (.pointer (some ⟨bA, 2, none⟩))), (fun v _ => v = (.slice (some ⟨gd, od, none⟩) LV cv)), (fun v _ => v = (.int .i64 (j : Int))), (fun v _ => v = (.pointer (some ⟨gd, od + j * 10, none⟩))), (fun v _ => v = (.pointer (some ⟨gd, od + j * 10 + 1, none⟩))), (fun v _ => v = (.agg #[.string ⟨s1.toArray⟩, .slice a1 m1 c1, .bool b1])), (fun v _ => v = (.pointer (some ⟨bA, 2, none⟩))), (fun v _ => v = (.slice (some ⟨gd, od, none⟩) LV cv)), (fun v _ => v = (.int .i64 (j : Int))), (fun v _ => v = (.pointer (some ⟨gd, od + j * 10, none⟩))), (fun v _ => v = (.pointer (some ⟨gd, od + j * 10 + 4, none⟩))), (fun v _ => v = (.bool dh)), (fun v _ => v = (.pointer (some ⟨bA, 2, none⟩))), (fun v _ => v = (.slice (some ⟨gd, od, none⟩) LV cv)), (fun v _ => v = (.int .i64 (j : Int))), (fun v _ => v = (.pointer (some ⟨gd, od + j * 10, none⟩))), (fun v _ => v = (.pointer (some ⟨gd, od + j * 10 + 5, none⟩))), (fun v _ => v = (.agg #[.int .u8 (vk : Int), .int .i64 vn, .string ⟨vs.toArray⟩, .slice va vl vc, .slice va2 vl2 vc2])), (fun v _ => v = (.string ⟨ib.toArray⟩)), (fun v _ => v = (.string (⟨#[36]⟩ ++ ⟨ib.toArray⟩))), (fun v _ => v = (.string (⟨Q.toArray⟩ ++ ⟨#[44, 32]⟩ ++ (⟨#[36]⟩ ++ ⟨ib.toArray⟩))))] rfl ⟨?_, ?_, ?_, ?_, ?_, ?_, ?_, ?_, ?_, ?_, ?_, ?_, ?_, ?_, ?_, ?_, ?_, ?_, ?_, ?_, ?_, ?_, ?_, ?_, ?_, ?_, ?_, ?_, trivial⟩ _ rfl ⟨?_, ?_, ?_, ?_, ?_, ?_, ?_, ?_, ?_, ?_, ?_, ?_, ?_, ?_, ?_, ?_, ?_, ?_, ?_, ?_, ?_, ?_, ?_, ?_, ?_, ?_, ?_, ?_, trivial⟩ ?_
     iterate 28 exact Stable.is _ _
     ·intro x wx ox hN TT HTT; unfold StepTo; simp only [putAll, Act.put, zA, zB, zC]; clear hN
      go_wp2_with fail
      exact ⟨rfl, _, rfl, HTT.out _ _ rfl oR⟩
     ·intro x wx ox hN TT HTT; unfold StepTo; simp only [putAll, Act.put, zA, zB, zC]; clear hN
      go_wp2_with fail
      exact ⟨rfl, _, rfl, HTT.out _ _ rfl oR⟩
     ·intro x wx ox hN TT HTT; unfold StepTo; simp only [putAll, Act.put, zA, zB, zC, eI (hN.1 rfl)]; clear hN; obtain ⟨mm0, mm1, mm2, mm3, mm4, mm5, mm6, mm7, mm8, mm9, mm10⟩ := HX.out wx ox
      go_wp2_with fail
      exact ⟨rfl, _, rfl, HTT.out _ _ rfl oR⟩
     ·intro x wx ox hN TT HTT; unfold StepTo; simp only [putAll, Act.put, zA, zB, zC]; clear hN
      go_wp2_with fail
      exact ⟨rfl, _, rfl, HTT.out _ _ rfl oR⟩
     ·intro x wx ox hN TT HTT; unfold StepTo; simp only [putAll, Act.put, zA, zB, zC, eI (hN.1 rfl), eI (hN.2.1 rfl)]; clear hN
      go_wp2_with fail
      exact ⟨rfl, _, rfl, HTT.out _ _ rfl oR⟩
     ·intro x wx ox hN TT HTT; unfold StepTo; simp only [putAll, Act.put, zA, zB, zC, eI (hN.1 rfl)]; clear hN
      go_wp2_with fail
      exact ⟨rfl, _, rfl, HTT.out _ _ rfl oR⟩
     ·intro x wx ox hN TT HTT; unfold StepTo; simp only [putAll, Act.put, zA, zB, zC, eI (hN.1 rfl)]; clear hN; obtain ⟨mm0, mm1, mm2, mm3, mm4, mm5, mm6, mm7, mm8, mm9, mm10⟩ := HX.out wx ox
      go_wp2_with fail
      exact ⟨rfl, _, rfl, HTT.out _ _ rfl oR⟩
     ·intro x wx ox hN TT HTT; unfold StepTo; simp only [putAll, Act.put, zA, zB, zC]; clear hN
      go_wp2_with fail
      exact ⟨rfl, _, rfl, HTT.out _ _ rfl oR⟩
     ·intro x wx ox hN TT HTT; unfold StepTo; simp only [putAll, Act.put, zA, zB, zC, eI (hN.1 rfl)]; clear hN; obtain ⟨mm0, mm1, mm2, mm3, mm4, mm5, mm6, mm7, mm8, mm9, mm10⟩ := HX.out wx ox
      go_wp2_with fail
      exact ⟨rfl, _, rfl, HTT.out _ _ rfl oR⟩
     ·intro x wx ox hN TT HTT; unfold StepTo; simp only [putAll, Act.put, zA, zB, zC]; clear hN
      go_wp2_with fail
      exact ⟨rfl, _, rfl, HTT.out _ _ rfl oR⟩
     ·intro x wx ox hN TT HTT; unfold StepTo; simp only [putAll, Act.put, zA, zB, zC, eI (hN.1 rfl), eI (hN.2.1 rfl)]; clear hN
      go_wp2_with fail
      exact ⟨rfl, _, rfl, HTT.out _ _ rfl oR⟩
     ·intro x wx ox hN TT HTT; unfold StepTo; simp only [putAll, Act.put, zA, zB, zC, eI (hN.1 rfl)]; clear hN
      go_wp2_with fail
      exact ⟨rfl, _, rfl, HTT.out _ _ rfl oR⟩
     ·intro x wx ox hN TT HTT; unfold StepTo; simp only [putAll, Act.put, zA, zB, zC, eI (hN.1 rfl)]; clear hN; obtain ⟨mm0, mm1, mm2, mm3, mm4, mm5, mm6, mm7, mm8, mm9, mm10⟩ := HX.out wx ox
      go_wp2_with fail
      exact ⟨rfl, _, rfl, HTT.out _ _ rfl oR⟩
     ·intro x wx ox hN TT HTT; unfold StepTo; simp only [putAll, Act.put, zA, zB, zC]; clear hN
      go_wp2_with fail
      exact ⟨rfl, _, rfl, HTT.out _ _ rfl oR⟩
     ·intro x wx ox hN TT HTT; unfold StepTo; simp only [putAll, Act.put, zA, zB, zC, eI (hN.1 rfl)]; clear hN; obtain ⟨mm0, mm1, mm2, mm3, mm4, mm5, mm6, mm7, mm8, mm9, mm10⟩ := HX.out wx ox
      go_wp2_with fail
      exact ⟨rfl, _, rfl, HTT.out _ _ rfl oR⟩
     ·intro x wx ox hN TT HTT; unfold StepTo; simp only [putAll, Act.put, zA, zB, zC]; clear hN
      go_wp2_with fail
      exact ⟨rfl, _, rfl, HTT.out _ _ rfl oR⟩
     ·intro x wx ox hN TT HTT; unfold StepTo; simp only [putAll, Act.put, zA, zB, zC, eI (hN.1 rfl), eI (hN.2.1 rfl)]; clear hN
      go_wp2_with fail
      exact ⟨rfl, _, rfl, HTT.out _ _ rfl oR⟩
     ·intro x wx ox hN TT HTT; unfold StepTo; simp only [putAll, Act.put, zA, zB, zC, eI (hN.1 rfl)]; clear hN
      go_wp2_with fail
      exact ⟨rfl, _, rfl, HTT.out _ _ rfl oR⟩
     ·intro x wx ox hN TT HTT; unfold StepTo; simp only [putAll, Act.put, zA, zB, zC, eI (hN.1 rfl)]; clear hN; obtain ⟨mm0, mm1, mm2, mm3, mm4, mm5, mm6, mm7, mm8, mm9, mm10⟩ := HX.out wx ox
      go_wp2_with fail
      exact ⟨rfl, _, rfl, HTT.out _ _ rfl oR⟩
     ·intro x wx ox hN TT HTT; unfold StepTo; simp only [putAll, Act.put, zA, zB, zC]; clear hN
      go_wp2_with fail
      exact ⟨rfl, _, rfl, HTT.out _ _ rfl oR⟩
     ·intro x wx ox hN TT HTT; unfold StepTo; simp only [putAll, Act.put, zA, zB, zC, eI (hN.1 rfl)]; clear hN; obtain ⟨mm0, mm1, mm2, mm3, mm4, mm5, mm6, mm7, mm8, mm9, mm10⟩ := HX.out wx ox
      go_wp2_with fail
      exact ⟨rfl, _, rfl, HTT.out _ _ rfl oR⟩
     ·intro x wx ox hN TT HTT; unfold StepTo; simp only [putAll, Act.put, zA, zB, zC]; clear hN
      go_wp2_with fail
      exact ⟨rfl, _, rfl, HTT.out _ _ rfl oR⟩
     ·intro x wx ox hN TT HTT; unfold StepTo; simp only [putAll, Act.put, zA, zB, zC, eI (hN.1 rfl), eI (hN.2.1 rfl)]; clear hN
      go_wp2_with fail
      exact ⟨rfl, _, rfl, HTT.out _ _ rfl oR⟩
     ·intro x wx ox hN TT HTT; unfold StepTo; simp only [putAll, Act.put, zA, zB, zC, eI (hN.1 rfl)]; clear hN
      go_wp2_with fail
      exact ⟨rfl, _, rfl, HTT.out _ _ rfl oR⟩
     ·intro x wx ox hN TT HTT; unfold StepTo; simp only [putAll, Act.put, zA, zB, zC, eI (hN.1 rfl)]; clear hN; obtain ⟨mm0, mm1, mm2, mm3, mm4, mm5, mm6, mm7, mm8, mm9, mm10⟩ := HX.out wx ox
      go_wp2_with fail
      exact ⟨rfl, _, rfl, HTT.out _ _ rfl oR⟩
     ·intro x wx ox hN TT HTT; unfold StepTo; simp only [putAll, Act.put, zA, zB, zC, eI (hN.1 rfl), eI (hN.2.1 rfl), eI (hN.2.2.1 rfl), eI (hN.2.2.2.1 rfl)]; clear hN; have ht := HREC.out wx ox; have HT := hid ht; clear ht
      go_wp2_with fail
      refine HT.out.mono ?_
      rintro e w6 ⟨rfl, o6⟩; have O6 := hid o6; clear o6
      go_wp2_with fail
      exact ⟨rfl, _, rfl, HTT.out _ _ rfl (O6.out)⟩
     ·intro x wx ox hN TT HTT; unfold StepTo; simp only [putAll, Act.put, zA, zB, zC, eI (hN.1 rfl)]; clear hN
      go_wp2_with fail
      exact ⟨rfl, _, rfl, HTT.out _ _ rfl oR⟩
     ·intro x wx ox hN TT HTT; unfold StepTo; simp only [putAll, Act.put, zA, zB, zC, eI (hN.1 rfl), eI (hN.2.1 rfl)]; clear hN
      go_wp2_with fail
      exact ⟨rfl, _, rfl, HTT.out _ _ rfl oR⟩
     intro xz wxz oxz hN; simp only [putAll, Act.put, zA, zB, zC, eI hN.1, eI hN.2.1, eI hN.2.2.1, eI hN.2.2.2.1, eI hN.2.2.2.2.1, eI hN.2.2.2.2.2.1, eI hN.2.2.2.2.2.2.1, eI hN.2.2.2.2.2.2.2.1, eI hN.2.2.2.2.2.2.2.2.1, eI hN.2.2.2.2.2.2.2.2.2.1, eI hN.2.2.2.2.2.2.2.2.2.2.1, eI hN.2.2.2.2.2.2.2.2.2.2.2.1, eI hN.2.2.2.2.2.2.2.2.2.2.2.2.1, eI hN.2.2.2.2.2.2.2.2.2.2.2.2.2.1, eI hN.2.2.2.2.2.2.2.2.2.2.2.2.2.2.1, eI hN.2.2.2.2.2.2.2.2.2.2.2.2.2.2.2.1, eI hN.2.2.2.2.2.2.2.2.2.2.2.2.2.2.2.2.1, eI hN.2.2.2.2.2.2.2.2.2.2.2.2.2.2.2.2.2.1, eI hN.2.2.2.2.2.2.2.2.2.2.2.2.2.2.2.2.2.2.1, eI hN.2.2.2.2.2.2.2.2.2.2.2.2.2.2.2.2.2.2.2.1, eI hN.2.2.2.2.2.2.2.2.2.2.2.2.2.2.2.2.2.2.2.2.1, eI hN.2.2.2.2.2.2.2.2.2.2.2.2.2.2.2.2.2.2.2.2.2.1, eI hN.2.2.2.2.2.2.2.2.2.2.2.2.2.2.2.2.2.2.2.2.2.2.1, eI hN.2.2.2.2.2.2.2.2.2.2.2.2.2.2.2.2.2.2.2.2.2.2.2.1, eI hN.2.2.2.2.2.2.2.2.2.2.2.2.2.2.2.2.2.2.2.2.2.2.2.2.1, eI hN.2.2.2.2.2.2.2.2.2.2.2.2.2.2.2.2.2.2.2.2.2.2.2.2.2.1, eI hN.2.2.2.2.2.2.2.2.2.2.2.2.2.2.2.2.2.2.2.2.2.2.2.2.2.2.1, eI hN.2.2.2.2.2.2.2.2.2.2.2.2.2.2.2.2.2.2.2.2.2.2.2.2.2.2.2.1]; clear hN; have OY := hid (HP.out.trans ((Only.refl _ wr).drew.trans oxz)); clear oxz
     go_wp2_with fail
     go_roundw
     case rel => exact ⟨j + 1, by simp, by omega, by rw [HQ'.out, HPN.out]; simp only [← cat_list], OY⟩
     case measure => simp [intOf]; omega
    ·have t4 : decide ((j : Int) < (LV : Int)) = false := decide_eq_false (by omega); have hjn : j = LV := by omega
     subst hjn; have hend := HEND.out; have hnx := HNX.out; rw [HVL.out] at hend; rw [hend] at hnx; have hpp := HPP.out; rw [hend] at hpp; have HS := hid (HS2.out wr (HOB.out.trans HP.out))
     generalize parB pre vits j = Q at *
     by_cases hzj : 0 < j
     ·have t5 : decide ((j : Int) > 0) = true := decide_eq_true (by omega); rw [if_pos hzj] at hnx hpp; have HNX2 := hid hnx; clear hnx hend hpp
      go_wp2_with fail
      refine HS.out.mono ?_
      rintro e w6 ⟨rfl, o6⟩; have HO6 := hid ((HZB.out.trans HP.out).trans o6); clear c2 c3 o6
      go_wp2_with fail
      go_roundw
      case rel => exact ⟨i + 1, by simp, by omega, by rw [HA'.out, HNX2.out]; simp only [← cat_list], HO6⟩
      case measure => simp [intOf]; omega
     have t5 : decide ((j : Int) > 0) = false := decide_eq_false (by omega); rw [if_neg hzj, List.append_nil] at hnx hpp; have HNX2 := hid hnx; clear hnx hend hpp
     go_wp2_with fail
     refine HS.out.mono ?_
     rintro e w6 ⟨rfl, o6⟩; have HO6 := hid ((HZB.out.trans HP.out).trans o6); clear c2 c3 o6
     go_wp2_with fail
     go_roundw
     case rel => exact ⟨i + 1, by simp, by omega, by rw [HA'.out, HNX2.out]; simp only [← cat_list], HO6⟩
     case measure => simp [intOf]; omega
  ·have t1 : decide ((i : Int) < (LO : Int)) = false := decide_eq_false (by omega); have hke : i = LO := by omega
   subst hke; have hal0 := hal
   go_wp2_with fail
   clear z0 z1
   go_loopw [3, 7] (fun x y wr => ∃ m : Nat, y = .int .i64 (m : Int) ∧ m ≤ LF ∧ x = .string ⟨(ren (sepI [.sp 32] (its.take (i + m)))).toArray⟩ ∧ Hid (Only (fun _ => False) wz wr)) (fun _ y _ => LF - (intOf y).toNat)
   case atStart => exact ⟨0, rfl, by omega, by rw [Nat.add_zero], HO⟩
   case round =>
    clear HO hal hal0; obtain ⟨m, rfl, hm, rfl, HO⟩ := hrel; obtain ⟨z0, z1⟩ := HZ.out; have z0 := keepc HO.out z0; have z1 := keepc HO.out z1; have hal := Nat.le_trans (sep_le [.sp 32] its (i + m)) HLL.out
    by_cases hlt : m < LF
    ·have t4 : decide ((m : Int) < (LF : Int)) = true := decide_eq_true (by omega); have hm0 : (0 : Int) ≤ (m : Int) := by omega
     have hm1 : (m : Int) < (LF : Int) := by omega
     have hvi : m < dd.frags.length := by rw [HLF.out]; exact hlt
     have hii : i + m < its.length := by rw [HIL.out]; omega
     have hnx := sep_next [.sp 32] its (i + m) hii; have hnl := Nat.le_trans (sep_le [.sp 32] its (i + m + 1)) HLL.out; rw [HIF.out m hvi hii, fr_ren] at hnx; rw [hnx] at hnl; simp only [List.length_append, List.length_cons, List.length_nil] at hnl; have hgf := HGF.out dd.frags[m] (List.getElem_mem hvi); obtain ⟨g, o, xs, rfl, -, q1, q2⟩ := HF.out m hvi; obtain ⟨sv, rfl, hs⟩ := fr_cells q2; have hss : (ren (setI dd.frags[m].sub)).length ≤ 1000000000000 := by omega
     have hnl1 : dd.frags[m].name.length ≤ 1000000000000 := by omega
     have hnl2 : dd.frags[m].on_.length ≤ 1000000000000 := by omega
     have hrec := fun (wx : World) (ox : Only (fun _ => False) w wx) => prS_any 24 dd.frags[m].sub hgf.2.2.2 G wx sv (CellAt.only ox (fun _ _ h => h) _ _ hs) hss
     obtain ⟨as_, cs_, rfl, -, -, -⟩ := rows_at hs; obtain ⟨e0, e1, e2⟩ := cells3_of q1
     generalize ren (setI dd.frags[m].sub) = rs at *
     generalize dd.frags[m].name = dn at *
     generalize dd.frags[m].on_ = dno at *
     generalize dd.frags[m].sub.length = LX at *
     obtain ⟨Q, hQ⟩ := eX (ren (sepI [.sp 32] (its.take (i + m)))); obtain ⟨Q', hQ'⟩ : ∃ Q, ren (sepI [.sp 32] (its.take (i + m + 1))) = Q := ⟨_, rfl⟩; rw [hQ] at hal hnx ⊢; rw [hQ'] at hnx; have HQ' := hid hQ'; have HNX := hid hnx; have oww : Only (fun _ => False) w wr := HOZ.out.trans HO.out; have HX := hid (fun (wx : World) (ox : Only (fun _ => False) wr.drew wx) => have o := (Only.refl _ wr).drew.trans ox; have ow := oww.trans o; And.intro (keepc o z1) (And.intro (keepc ow e0) (And.intro (keepc ow e1) (keepc ow e2)))); have HREC := hid (fun (wx : World) (ox : Only (fun _ => False) wr.drew wx) => hrec wx (oww.trans ((Only.refl _ wr).drew.trans ox))); clear hQ hQ' hnx hnl hrec q1 q2 hs e0 e1 e2 oww hgf; obtain ⟨bb, hbb⟩ : ∃ bb : Bool, decide (0 < i + m) = bb := ⟨_, rfl⟩; obtain ⟨q2_, hq2⟩ : ∃ q : List UInt8, Q ++ (if 0 < i + m then [32] else []) = q := ⟨_, rfl⟩; have HBB := hid hbb; have HQ2 := hid hq2; have hnx := HNX.out; rw [spc_ren, hq2] at hnx; have HNX2 := hid hnx; have hq2l : q2_.length ≤ 1000000000000 := by
      have h1 := sep_le [.sp 32] its (i + m + 1); have h2 := HLL.out; rw [HQ'.out, hnx] at h1; simp only [List.length_append] at h1; omega
     clear hbb hq2 hnx HNX
     go_upto_region 26 with (fail)
     go_cut [104] from 97 to 103 (fun v w' => v = .bool bb ∧ wr = w')
     case first =>
      by_cases hz : 0 < m
      ·have t5 : decide ((m : Int) > 0) = true := decide_eq_true (by omega)
       go_wp2_with fail
       go_meet
       case rel => exact ⟨by rw [← HBB.out, decide_eq_true (by omega)], rfl⟩
      by_cases hz2 : 0 < i
      ·have t5 : decide ((m : Int) > 0) = false := decide_eq_false (by omega); have t6 : decide ((i : Int) > 0) = true := decide_eq_true (by omega)
       go_wp2_with fail
       go_meet
       case rel => exact ⟨by rw [← HBB.out, decide_eq_true (by omega)], rfl⟩
      ·have t5 : decide ((m : Int) > 0) = false := decide_eq_false (by omega); have t6 : decide ((i : Int) > 0) = false := decide_eq_false (by omega)
       go_wp2_with fail
       go_meet
       case rel => exact ⟨by rw [← HBB.out, decide_eq_false (by omega)], rfl⟩
     case rest =>
     obtain ⟨rfl, rfl⟩ := hcut
     go_upto_if 104 with (fail)
     go_cut [3] from 105 to 106 (fun v w' => v = .string ⟨q2_.toArray⟩ ∧ wr = w')
     case first =>
      cases bb with
      | true =>
       have hp := HQ2.out; rw [if_pos (of_decide_eq_true HBB.out)] at hp; have HH := hid hp; clear hp
       go_wp2_with fail
       go_meet
       case rel => exact ⟨by rw [← HH.out]; simp only [← cat_list], rfl⟩
      | false =>
       have hp := HQ2.out; rw [if_neg (of_decide_eq_false HBB.out), List.append_nil] at hp; have HH := hid hp; clear hp
       go_wp2_with fail
       go_meet
       case rel => exact ⟨by rw [← HH.out], rfl⟩
     case rest =>
     obtain ⟨rfl, rfl⟩ := hcut
     go_upto_region 28 with (fail)
     clear z0 z1
     refine wp_region_steps 25 (by kernel_rfl) rfl (by kernel_rfl) [some 107, some 108, some 109, some 110, some 111, some 112, some 113, some 114, some 115, some 116, some 117, some 118, some 119, some 120, some 121, some 122, some 123, some 124, some 125, some 126, some 127, some 128, some 129, some 130, some 131] rfl rfl (fun _ => False) [(fun v _ => v = (.string ⟨q2_.toArray⟩)), (fun v _ => v = (.pointer (some ⟨bD, 1, none⟩))), (fun v _ => v = (.slice (some ⟨g, o, none⟩) LF r)), (fun v _ => v = (.int .i64 (m : Int))), (fun v _ => v = (.pointer (some ⟨g, o + m * 3, none⟩))), (fun v _ => v = (.pointer (some ⟨g, o + m * 3, none⟩))), (fun v _ => v = (.string ⟨dn.toArray⟩)), (fun v _ => v = (.string (⟨#[102, 114, 97, 103, 109, 101, 110, 116, 32]⟩ ++ ⟨dn.toArray⟩))), (fun v _ => v = (.string (⟨#[102, 114, 97, 103, 109, 101, 110, 116, 32]⟩ ++ ⟨dn.toArray⟩ ++ ⟨#[32, 111, 110, 32]⟩))), (fun v _ => v = (.pointer (some ⟨bD, 1, none⟩))), (fun v _ => v = (.slice (some ⟨g, o, none⟩) LF r)), (fun v _ => v = (.int .i64 (m : Int))), (fun v _ => v = (.pointer (some ⟨g, o + m * 3, none⟩))), (fun v _ => v = (.pointer (some ⟨g, o + m * 3 + 1, none⟩))), (fun v _ => v = (.string ⟨dno.toArray⟩)), (fun v _ => v = (.string (⟨#[102, 114, 97, 103, 109, 101, 110, 116, 32]⟩ ++ ⟨dn.toArray⟩ ++ ⟨#[32, 111, 110, 32]⟩ ++ ⟨dno.toArray⟩))), (fun v _ => v = (.pointer (some ⟨bD, 1, none⟩))), (fun v _ => v = (.slice (some ⟨g, o, none⟩) LF r)), (fun v _ => v = (.int .i64 (m : Int))), (fun v _ => v = (.pointer (some ⟨g, o + m * 3, none⟩))), (fun v _ => v = (.pointer (some ⟨g, o + m * 3 + 2, none⟩))), (fun v _ => v = (.slice as_ LX cs_)), (fun v _ => v = (.string ⟨rs.toArray⟩)), (fun v _ => v = (.string (⟨#[102, 114, 97, 103, 109, 101, 110, 116, 32]⟩ ++ ⟨dn.toArray⟩ ++ ⟨#[32, 111, 110, 32]⟩ ++ ⟨dno.toArray⟩ ++ ⟨rs.toArray⟩))), (fun v _ => v = (.string (⟨q2_.toArray⟩ ++ (⟨#[102, 114, 97, 103, 109, 101, 110, 116, 32]⟩ ++ ⟨dn.toArray⟩ ++ ⟨#[32, 111, 110, 32]⟩ ++ ⟨dno.toArray⟩ ++ ⟨rs.toArray⟩))))] rfl ⟨?_, ?_, ?_, ?_, ?_, ?_, ?_, ?_, ?_, ?_, ?_, ?_, ?_, ?_, ?_, ?_, ?_, ?_, ?_, ?_, ?_, ?_, ?_, ?_, ?_, trivial⟩ _ rfl ⟨?_, ?_, ?_, ?_, ?_, ?_, ?_, ?_, ?_, ?_, ?_, ?_, ?_, ?_, ?_, ?_, ?_, ?_, ?_, ?_, ?_, ?_, ?_, ?_, ?_, trivial⟩ ?_
     iterate 25 exact Stable.is _ _
     ·intro x wx ox hN TT HTT; unfold StepTo; simp only [putAll, Act.put, zA, zB, zC]; clear hN
      go_wp2_with fail
      exact ⟨rfl, _, rfl, HTT.out _ _ rfl oR⟩
     ·intro x wx ox hN TT HTT; unfold StepTo; simp only [putAll, Act.put, zA, zB, zC]; clear hN
      go_wp2_with fail
      exact ⟨rfl, _, rfl, HTT.out _ _ rfl oR⟩
     ·intro x wx ox hN TT HTT; unfold StepTo; simp only [putAll, Act.put, zA, zB, zC, eI (hN.1 rfl)]; clear hN; obtain ⟨mm1, mm2, mm3, mm4⟩ := HX.out wx ox
      go_wp2_with fail
      exact ⟨rfl, _, rfl, HTT.out _ _ rfl oR⟩
     ·intro x wx ox hN TT HTT; unfold StepTo; simp only [putAll, Act.put, zA, zB, zC]; clear hN
      go_wp2_with fail
      exact ⟨rfl, _, rfl, HTT.out _ _ rfl oR⟩
     ·intro x wx ox hN TT HTT; unfold StepTo; simp only [putAll, Act.put, zA, zB, zC, eI (hN.1 rfl), eI (hN.2.1 rfl)]; clear hN
      go_wp2_with fail
      exact ⟨rfl, _, rfl, HTT.out _ _ rfl oR⟩
     ·intro x wx ox hN TT HTT; unfold StepTo; simp only [putAll, Act.put, zA, zB, zC, eI (hN.1 rfl)]; clear hN
      go_wp2_with fail
      exact ⟨rfl, _, rfl, HTT.out _ _ rfl oR⟩
     ·intro x wx ox hN TT HTT; unfold StepTo; simp only [putAll, Act.put, zA, zB, zC, eI (hN.1 rfl)]; clear hN; obtain ⟨mm1, mm2, mm3, mm4⟩ := HX.out wx ox
      go_wp2_with fail
      exact ⟨rfl, _, rfl, HTT.out _ _ rfl oR⟩
     ·intro x wx ox hN TT HTT; unfold StepTo; simp only [putAll, Act.put, zA, zB, zC, eI (hN.1 rfl)]; clear hN
      go_wp2_with fail
      exact ⟨rfl, _, rfl, HTT.out _ _ rfl oR⟩
     ·intro x wx ox hN TT HTT; unfold StepTo; simp only [putAll, Act.put, zA, zB, zC, eI (hN.1 rfl)]; clear hN
      go_wp2_with fail
      exact ⟨rfl, _, rfl, HTT.out _ _ rfl oR⟩
     ·intro x wx ox hN TT HTT; unfold StepTo; simp only [putAll, Act.put, zA, zB, zC]; clear hN
      go_wp2_with fail
      exact ⟨rfl, _, rfl, HTT.out _ _ rfl oR⟩
     ·intro x wx ox hN TT HTT; unfold StepTo; simp only [putAll, Act.put, zA, zB, zC, eI (hN.1 rfl)]; clear hN; obtain ⟨mm1, mm2, mm3, mm4⟩ := HX.out wx ox
      go_wp2_with fail
      exact ⟨rfl, _, rfl, HTT.out _ _ rfl oR⟩
     ·intro x wx ox hN TT HTT; unfold StepTo; simp only [putAll, Act.put, zA, zB, zC]; clear hN
      go_wp2_with fail
      exact ⟨rfl, _, rfl, HTT.out _ _ rfl oR⟩
     ·intro x wx ox hN TT HTT; unfold StepTo; simp only [putAll, Act.put, zA, zB, zC, eI (hN.1 rfl), eI (hN.2.1 rfl)]; clear hN
      go_wp2_with fail
      exact ⟨rfl, _, rfl, HTT.out _ _ rfl oR⟩
     ·intro x wx ox hN TT HTT; unfold StepTo; simp only [putAll, Act.put, zA, zB, zC, eI (hN.1 rfl)]; clear hN
      go_wp2_with fail
      exact ⟨rfl, _, rfl, HTT.out _ _ rfl oR⟩
     ·intro x wx ox hN TT HTT; unfold StepTo; simp only [putAll, Act.put, zA, zB, zC, eI (hN.1 rfl)]; clear hN; obtain ⟨mm1, mm2, mm3, mm4⟩ := HX.out wx ox
      go_wp2_with fail
      exact ⟨rfl, _, rfl, HTT.out _ _ rfl oR⟩
     ·intro x wx ox hN TT HTT; unfold StepTo; simp only [putAll, Act.put, zA, zB, zC, eI (hN.1 rfl), eI (hN.2.1 rfl)]; clear hN
      go_wp2_with fail
      exact ⟨rfl, _, rfl, HTT.out _ _ rfl oR⟩
     ·intro x wx ox hN TT HTT; unfold StepTo; simp only [putAll, Act.put, zA, zB, zC]; clear hN
      go_wp2_with fail
      exact ⟨rfl, _, rfl, HTT.out _ _ rfl oR⟩
     ·intro x wx ox hN TT HTT; unfold StepTo; simp only [putAll, Act.put, zA, zB, zC, eI (hN.1 rfl)]; clear hN; obtain ⟨mm1, mm2, mm3, mm4⟩ := HX.out wx ox
      go_wp2_with fail
      exact ⟨rfl, _, rfl, HTT.out _ _ rfl oR⟩
     ·intro x wx ox hN TT HTT; unfold StepTo; simp only [putAll, Act.put, zA, zB, zC]; clear hN
      go_wp2_with fail
      exact ⟨rfl, _, rfl, HTT.out _ _ rfl oR⟩
     ·intro x wx ox hN TT HTT; unfold StepTo; simp only [putAll, Act.put, zA, zB, zC, eI (hN.1 rfl), eI (hN.2.1 rfl)]; clear hN
      go_wp2_with fail
      exact ⟨rfl, _, rfl, HTT.out _ _ rfl oR⟩
     ·intro x wx ox hN TT HTT; unfold StepTo; simp only [putAll, Act.put, zA, zB, zC, eI (hN.1 rfl)]; clear hN
      go_wp2_with fail
      exact ⟨rfl, _, rfl, HTT.out _ _ rfl oR⟩
     ·intro x wx ox hN TT HTT; unfold StepTo; simp only [putAll, Act.put, zA, zB, zC, eI (hN.1 rfl)]; clear hN; obtain ⟨mm1, mm2, mm3, mm4⟩ := HX.out wx ox
      go_wp2_with fail
      exact ⟨rfl, _, rfl, HTT.out _ _ rfl oR⟩
     ·intro x wx ox hN TT HTT; unfold StepTo; simp only [putAll, Act.put, zA, zB, zC, eI (hN.1 rfl)]; clear hN; have ht := HREC.out wx ox; have HT := hid ht; clear ht
      go_wp2_with fail
      refine HT.out.mono ?_
      rintro e w6 ⟨rfl, o6⟩; have O6 := hid o6; clear o6
      go_wp2_with fail
      exact ⟨rfl, _, rfl, HTT.out _ _ rfl (O6.out)⟩
     ·intro x wx ox hN TT HTT; unfold StepTo; simp only [putAll, Act.put, zA, zB, zC, eI (hN.1 rfl), eI (hN.2.1 rfl)]; clear hN
      go_wp2_with fail
      exact ⟨rfl, _, rfl, HTT.out _ _ rfl oR⟩
     ·intro x wx ox hN TT HTT; unfold StepTo; simp only [putAll, Act.put, zA, zB, zC, eI (hN.1 rfl), eI (hN.2.1 rfl)]; clear hN
      go_wp2_with fail
      exact ⟨rfl, _, rfl, HTT.out _ _ rfl oR⟩
     intro xz wxz oxz hN; simp only [putAll, Act.put, zA, zB, zC, eI hN.1, eI hN.2.1, eI hN.2.2.1, eI hN.2.2.2.1, eI hN.2.2.2.2.1, eI hN.2.2.2.2.2.1, eI hN.2.2.2.2.2.2.1, eI hN.2.2.2.2.2.2.2.1, eI hN.2.2.2.2.2.2.2.2.1, eI hN.2.2.2.2.2.2.2.2.2.1, eI hN.2.2.2.2.2.2.2.2.2.2.1, eI hN.2.2.2.2.2.2.2.2.2.2.2.1, eI hN.2.2.2.2.2.2.2.2.2.2.2.2.1, eI hN.2.2.2.2.2.2.2.2.2.2.2.2.2.1, eI hN.2.2.2.2.2.2.2.2.2.2.2.2.2.2.1, eI hN.2.2.2.2.2.2.2.2.2.2.2.2.2.2.2.1, eI hN.2.2.2.2.2.2.2.2.2.2.2.2.2.2.2.2.1, eI hN.2.2.2.2.2.2.2.2.2.2.2.2.2.2.2.2.2.1, eI hN.2.2.2.2.2.2.2.2.2.2.2.2.2.2.2.2.2.2.1, eI hN.2.2.2.2.2.2.2.2.2.2.2.2.2.2.2.2.2.2.2.1, eI hN.2.2.2.2.2.2.2.2.2.2.2.2.2.2.2.2.2.2.2.2.1, eI hN.2.2.2.2.2.2.2.2.2.2.2.2.2.2.2.2.2.2.2.2.2.1, eI hN.2.2.2.2.2.2.2.2.2.2.2.2.2.2.2.2.2.2.2.2.2.2.1, eI hN.2.2.2.2.2.2.2.2.2.2.2.2.2.2.2.2.2.2.2.2.2.2.2.1, eI hN.2.2.2.2.2.2.2.2.2.2.2.2.2.2.2.2.2.2.2.2.2.2.2.2.1]; clear hN; have OY := hid (HO.out.trans ((Only.refl _ wr).drew.trans oxz)); clear oxz
     go_wp2_with fail
     go_roundw
     case rel => exact ⟨m + 1, by simp, by omega, by rw [← Nat.add_assoc, HQ'.out, HNX2.out]; simp only [← cat_list], OY⟩
     case measure => simp [intOf]; omega
    ·have t4 : decide ((m : Int) < (LF : Int)) = false := decide_eq_false (by omega); have hke : m = LF := by omega
     subst hke; have htk : its.take (i + m) = its := List.take_of_length_le (by rw [HIL.out]; omega); rw [htk, HR.out]; clear htk hal
     go_wp2_with fail
     clear z0 z1
     go_ret
     exact ⟨rfl, HOZ.out.trans HO.out⟩
end Go.Proofs.YtnkpoddbbdmipaaGreatDoor
