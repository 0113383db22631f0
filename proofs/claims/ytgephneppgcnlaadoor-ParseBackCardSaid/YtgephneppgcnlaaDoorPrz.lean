/- The document's printer: documents. -/
import Derived.Test.YtgephneppgcnlaaDoorPrs
import Derived.Test.YtgephneppgcnlaaDoorSmd
namespace Go.Proofs.YtgephneppgcnlaaDoor
open Go Go.RowKit
set_option linter.unusedVariables false
set_option linter.unusedSimpArgs false

theorem spc_ren : ren [.sp 32] = [32] := rfl
theorem var_ren (v : VD) : ren (varI v) = [36] ++ inpB v.name v.t v.has v.v := by
 unfold varI
 rw [ren_cons, inp_ren]
 simp [ren, It.src, sgI, nmI]
theorem op_ren (mu : Bool) (nm : List UInt8) (vds : List VD) (sub : List SL) : ren (opI ⟨mu, nm, vds, sub⟩) = (if mu then [109, 117, 116, 97, 116, 105, 111, 110] else [113, 117, 101, 114, 121]) ++ (if nm = [] then [] else [32] ++ nm) ++ ren (parI (vds.map varI)) ++ ren (setI sub) := by
 unfold opI
 rw [ren_cons, ren_app, ren_app]
 cases mu <;> by_cases h : nm = [] <;> simp [h, ren, It.src, nmI, wMutation, wQuery]
theorem fr_ren (f : FR) : ren (frI f) = [102, 114, 97, 103, 109, 101, 110, 116, 32] ++ f.name ++ [32, 111, 110, 32] ++ f.on_ ++ ren (setI f.sub) := by
 unfold frI
 simp only [ren_cons]
 simp [It.src, nmI, wFragment, wOn]
theorem goodI_wellP {n : List UInt8} {t : TR} {has : Bool} {v : VT} (h : GoodI n t has v) : has = true → WellV v := fun hh => by
 rcases h.2.2 with ⟨_, h⟩ | ⟨h, _⟩
 ·exact goodV_wellP true 24 v h
 ·rw [h] at hh; cases hh
set_option maxRecDepth 100000 in
set_option maxHeartbeats 64000000 in
theorem prD_any (dd : DC) (hg : GoodDoc dd) (G : Nat → Prop) (w : World) (x y : Value) (h : CellsAt w G (docC dd) [x, y]) (hl : (ren (docI dd)).length ≤ 1000000000000) :
  Calls Tryd.prog 15 #[.agg #[x, y]] w (fun e w' => e = .returned (.string ⟨(ren (docI dd)).toArray⟩) ∧ Only (fun _ => False) w w') := by
 obtain ⟨h1, h2⟩ := doc_cells h
 obtain ⟨a, c, rfl, k1, k2, k3⟩ := rows_at h1
 obtain ⟨p, r, rfl, l1, l2, l3⟩ := rows_at h2
 obtain ⟨its, hits⟩ : ∃ l, dd.ops.map opI ++ dd.frags.map frI = l := ⟨_, rfl⟩
 have hil : its.length = dd.ops.length + dd.frags.length := by rw [← hits, List.length_append, List.length_map, List.length_map]
 have hio : ∀ i (h : i < dd.ops.length) (h' : i < its.length), its[i] = opI dd.ops[i] := fun i h h' => by
  subst hits; rw [List.getElem_append_left (by rw [List.length_map]; exact h), List.getElem_map]
 have hif : ∀ i (h : i < dd.frags.length) (h' : dd.ops.length + i < its.length), its[dd.ops.length + i] = frI dd.frags[i] := fun i h h' => by
  subst hits; rw [List.getElem_append_right (by rw [List.length_map]; omega)]; simp
 have hdr : docI dd = sepI [.sp 32] its := by rw [← hits]; rfl
 rw [hdr] at hl ⊢
 obtain ⟨R, hR⟩ : ∃ R, ren (sepI [.sp 32] its) = R := ⟨_, rfl⟩
 rw [hR] at ⊢
 obtain ⟨LO, hLO⟩ : ∃ L, dd.ops.length = L := ⟨_, rfl⟩
 obtain ⟨LF, hLF⟩ : ∃ L, dd.frags.length = L := ⟨_, rfl⟩
 rw [hLO] at k1 hil hif ⊢
 rw [hLF] at l1 hil ⊢
 obtain ⟨wz, hwz⟩ : ∃ wb, w.alloc (.cells #[.slice a LO c, .slice p LF r] 26) = wb := ⟨_, rfl⟩
 have oz : Only (fun _ => False) w wz := by rw [← hwz]; exact (Only.refl _ w).alloc _
 obtain ⟨bD, hbD⟩ : ∃ b, w.heap.size = b := ⟨_, rfl⟩
 have hx1 : wz.heap[bD]? = some (.cells #[.slice a LO c, .slice p LF r] 26 (0, 0)) := by rw [← hwz, ← hbD]; exact heap_new w _
 obtain ⟨z0, z1, -⟩ := boxN2 hx1
 have HZ := Lib.hid (And.intro z0 z1)
 have HOZ := Lib.hid oz; have HWZ := Lib.hid hwz; have HBD := Lib.hid hbD
 have HK := Lib.hid k3; have HF := Lib.hid l3; have HIL := Lib.hid hil; have HIO := Lib.hid hio; have HIF := Lib.hid hif; have HLL := Lib.hid hl; have HR := Lib.hid hR; have HLO := Lib.hid hLO; have HLF := Lib.hid hLF; have HGO := Lib.hid hg.1; have HGF := Lib.hid hg.2
 clear h h1 h2 hg hl k3 l3 hits hil hio hif hdr hR hLO hLF oz hwz hbD hx1
 go_enter Tryd.func15, Tryd.ntmps15
 go_upto_region 1 with (fail)
 rw [HWZ.out, HBD.out]
 go_wp2_with fail
 clear z0 z1
 go_loopw [3, 4] (fun x y wr => ∃ i : Nat, y = .int .i64 (i : Int) ∧ i ≤ LO ∧ x = .string ⟨(ren (sepI [.sp 32] (its.take i))).toArray⟩ ∧ Hid (Only (fun _ => False) wz wr)) (fun _ y _ => LO - (intOf y).toNat)
 case atStart => exact ⟨0, rfl, by omega, by rw [sep_zero], Lib.hid (Only.refl _ _)⟩
 case round =>
  obtain ⟨i, rfl, hi, rfl, HO⟩ := hrel
  obtain ⟨z0, z1⟩ := HZ.out
  have z0 := keepc HO.out z0; have z1 := keepc HO.out z1
  have hal := Nat.le_trans (sep_le [.sp 32] its i) HLL.out
  by_cases hlt : i < LO
  ·have t1 : decide ((i : Int) < (LO : Int)) = true := decide_eq_true (by omega)
   have hi0 : (0 : Int) ≤ (i : Int) := by omega
   have hi1 : (i : Int) < (LO : Int) := by omega
   have hvi : i < dd.ops.length := by rw [HLO.out]; exact hlt
   have hii : i < its.length := by rw [HIL.out]; omega
   have hnx := sep_next [.sp 32] its i hii
   have hnl := Nat.le_trans (sep_le [.sp 32] its (i + 1)) HLL.out
   have hitem := HIO.out i hvi hii
   have hgo := HGO.out dd.ops[i] (List.getElem_mem hvi)
   obtain ⟨gt, ot, xs, rfl, -, q1, q2⟩ := HK.out i hvi
   obtain ⟨op, hop⟩ : ∃ op, dd.ops[i] = op := ⟨_, rfl⟩
   rw [hop] at hitem hgo q2
   obtain ⟨mu, nm, vds, sub⟩ := op
   rw [hitem, op_ren] at hnx
   obtain ⟨vv, sv, rfl, hv, hs⟩ := op_cells q2
   have hgv := hgo.2.1
   have hgs := hgo.2.2
   simp only at hgv hgs hv hs q1
   have hsa := fun (hle : (ren (setI sub)).length ≤ 1000000000000) (wx : World) (ox : Only (fun _ => False) w wx) => prS_any 24 sub hgs G wx sv (CellAt.only ox (fun _ _ h => h) _ _ hs) hle
   obtain ⟨av, cv, rfl, n1, n2, n3⟩ := rows_at hv
   obtain ⟨as_, cs_, rfl, -, -, -⟩ := rows_at hs
   obtain ⟨LV, hLV⟩ : ∃ L, vds.length = L := ⟨_, rfl⟩
   obtain ⟨LS, hLS⟩ : ∃ L, sub.length = L := ⟨_, rfl⟩
   rw [hLV] at q1 n1
   rw [hLS] at hsa q1
   have HOW := Lib.hid (HOZ.out.trans HO.out)
   obtain ⟨e0, e1, e2, e3⟩ := cells4_of q1
   have e0 := keepc HOW.out e0; have e1 := keepc HOW.out e1; have e2 := keepc HOW.out e2; have e3 := keepc HOW.out e3
   obtain ⟨vits, hvits⟩ : ∃ l, vds.map varI = l := ⟨_, rfl⟩
   have hvl : vits.length = LV := by rw [← hvits, List.length_map, hLV]
   have hvg : ∀ j (h : j < vds.length) (h' : j < vits.length), ren vits[j] = [36] ++ inpB vds[j].name vds[j].t vds[j].has vds[j].v := fun j h h' => by subst hvits; rw [List.getElem_map, var_ren]
   rw [hvits] at hnx
   obtain ⟨acc, hacc⟩ : ∃ a, ren (sepI [.sp 32] (its.take i)) = a := ⟨_, rfl⟩
   obtain ⟨acc', hacc'⟩ : ∃ a, ren (sepI [.sp 32] (its.take (i + 1))) = a := ⟨_, rfl⟩
   have HA' := Lib.hid hacc'
   rw [hacc] at hal hnx ⊢
   rw [hacc'] at hnx hnl
   have HND := Lib.hid n3; have HLV := Lib.hid hLV; have HVL := Lib.hid hvl; have HVG := Lib.hid hvg; have HSA := Lib.hid hsa; have HGV := Lib.hid hgv; have HNL := Lib.hid hnl; have HNX0 := Lib.hid hnx
   clear hacc hacc' hitem q1 q2 hv hs n3 hLV hLS hvits hvl hvg hsa hgv hgs hgo hop hnx hnl z1
   have hnx := HNX0.out
   have hnl := HNL.out
   rw [spc_ren] at hnx
   obtain ⟨p1_, hp1⟩ : ∃ q : List UInt8, acc ++ (if 0 < i then [32] else []) = q := ⟨_, rfl⟩
   obtain ⟨p2_, hp2⟩ : ∃ q : List UInt8, p1_ ++ (if mu = true then [109, 117, 116, 97, 116, 105, 111, 110] else [113, 117, 101, 114, 121]) = q := ⟨_, rfl⟩
   obtain ⟨pre, hp3⟩ : ∃ q : List UInt8, p2_ ++ (if nm = [] then [] else [32] ++ nm) = q := ⟨_, rfl⟩
   have hnx2 : acc' = pre ++ ren (parI vits) ++ ren (setI sub) := by rw [hnx, ← hp3, ← hp2, ← hp1]; simp only [List.append_assoc]
   rw [hnx2] at hnl
   simp only [List.length_append] at hnl
   have hpl : pre.length ≤ 1000000000000 := by omega
   have hp2l : p2_.length ≤ 1000000000000 := by rw [← hp3, List.length_append] at hpl; omega
   have hp1l : p1_.length ≤ 1000000000000 := by rw [← hp2, List.length_append] at hp2l; omega
   have hpp : (pre ++ ren (parI vits)).length ≤ 1000000000000 := by rw [List.length_append]; omega
   have hss : (ren (setI sub)).length ≤ 1000000000000 := by omega
   have hnml : nm = [] ∨ nm.length ≤ 1000000000000 := by
    by_cases h : nm = []
    ·exact .inl h
    ·rw [← hp3, if_neg h] at hpl; simp only [List.length_append] at hpl; exact .inr (by omega)
   have HP1 := Lib.hid hp1; have HP2 := Lib.hid hp2; have HP3 := Lib.hid hp3; have HNX := Lib.hid hnx2; have HPP := Lib.hid hpp; have HS2 := Lib.hid (HSA.out hss); have HEND := Lib.hid (parB_end pre vits); have HNM := Lib.hid hnml
   generalize ren (setI sub) = rs at *
   clear hnx hnx2 hp1 hp2 hp3 hpp hnl hnml
   obtain ⟨bA, hbA⟩ : ∃ b, wr.heap.size = b := ⟨_, rfl⟩
   obtain ⟨wb, hwb⟩ : ∃ x, wr.alloc (.cells #[.bool mu, .string ⟨nm.toArray⟩, .slice av LV cv, .slice as_ LS cs_] 39) = x := ⟨_, rfl⟩
   have hx1 : wb.heap[bA]? = some (.cells #[.bool mu, .string ⟨nm.toArray⟩, .slice av LV cv, .slice as_ LS cs_] 39 (0, 0)) := by rw [← hwb, ← hbA]; exact heap_new wr _
   have ob : Only (fun _ => False) wr wb := by rw [← hwb]; exact (Only.refl _ wr).alloc _
   obtain ⟨c0, c1, c2, c3, -⟩ := boxN4 hx1
   have HC := Lib.hid (And.intro c2 c3)
   have HOB := Lib.hid (HOW.out.trans ob); have HZB := Lib.hid (HO.out.trans ob); have HWB := Lib.hid hwb; have HBA := Lib.hid hbA
   clear hx1 ob hwb hbA
   go_upto_region 6 with (fail)
   rw [HWB.out, HBA.out]
   clear e0 e1 e2 e3 z0
   go_upto_if 21 with (fail)
   go_cut [3] from 20 to 23 (fun v w' => v = .string ⟨p1_.toArray⟩ ∧ wb = w')
   case first =>
    by_cases hz : 0 < i
    ·have tz : decide ((i : Int) > 0) = true := decide_eq_true (by omega)
     have hp := HP1.out
     rw [if_pos hz] at hp
     have HH := Lib.hid hp; clear hp
     go_wp2_with fail
     go_meet
     case rel => exact ⟨by rw [← HH.out]; simp only [← cat_list], rfl⟩
    skip
    have tz : decide ((i : Int) > 0) = false := decide_eq_false (by omega)
    have hp := HP1.out
    rw [if_neg hz, List.append_nil] at hp
    have HH := Lib.hid hp; clear hp
    go_wp2_with fail
    go_meet
    case rel => exact ⟨by rw [← HH.out]; skip, rfl⟩
   case rest =>
   obtain ⟨rfl, rfl⟩ := hcut
   go_upto_if 25 with (fail)
   go_cut [3] from 24 to 29 (fun v w' => v = .string ⟨p2_.toArray⟩ ∧ wb = w')
   case first =>
    cases mu with
    | true =>
     have hp := HP2.out
     rw [if_pos rfl] at hp
     have HH := Lib.hid hp; clear hp
     go_wp2_with fail
     go_meet
     case rel => exact ⟨by rw [← HH.out]; simp only [← cat_list], rfl⟩
    | false =>
     have hp := HP2.out
     rw [if_neg (by decide)] at hp
     have HH := Lib.hid hp; clear hp
     go_wp2_with fail
     go_meet
     case rel => exact ⟨by rw [← HH.out]; simp only [← cat_list], rfl⟩
   case rest =>
   obtain ⟨rfl, rfl⟩ := hcut
   go_upto_if 32 with (fail)
   go_cut [3] from 30 to 37 (fun v w' => v = .string ⟨pre.toArray⟩ ∧ wb = w')
   case first =>
    by_cases hn : nm = []
    ·have hp := HP3.out
     rw [if_pos hn, List.append_nil] at hp
     have HH := Lib.hid hp; clear hp
     subst hn
     go_wp2_with fail
     go_meet
     case rel => exact ⟨by rw [← HH.out], rfl⟩
    ·have hp := HP3.out
     rw [if_neg hn] at hp
     have HH := Lib.hid hp; clear hp
     have hnl := HNM.out.resolve_left hn
     have x1 : (nm == []) = false := by simpa using hn
     have x2 : (nm != []) = true := by simpa using hn
     have x3 : nm.isEmpty = false := by cases nm with | nil => exact absurd rfl hn | cons _ _ => rfl
     have x4 : (!nm.isEmpty) = true := by rw [x3]; rfl
     have HN := Lib.hid hn; clear hn
     go_wp2_with fail
     case neg hneg => exact absurd (hneg.symm.trans x4) (by decide)
     go_meet
     case rel => exact ⟨by rw [← HH.out]; simp only [← cat_list], rfl⟩
   case rest =>
   obtain ⟨rfl, rfl⟩ := hcut
   go_wp2_with fail
   clear c0 c1 c2 c3
   go_loopw [3, 6] (fun x y w8 => ∃ j : Nat, y = .int .i64 (j : Int) ∧ j ≤ LV ∧ x = .string ⟨(parB pre vits j).toArray⟩ ∧ Hid (Only (fun _ => False) wb w8)) (fun _ y _ => LV - (intOf y).toNat)
   case atStart => exact ⟨0, rfl, by omega, by unfold parB; rw [if_pos rfl, List.append_nil], Lib.hid (Only.refl _ _)⟩
   case round =>
    obtain ⟨j, rfl, hj, rfl, HP⟩ := hrel
    obtain ⟨c2, c3⟩ := HC.out
    have c2 := keepc HP.out c2; have c3 := keepc HP.out c3
    have hal2 := Nat.le_trans (parB_le pre vits j (by rw [HVL.out]; omega)) HPP.out
    by_cases hltj : j < LV
    ·have t4 : decide ((j : Int) < (LV : Int)) = true := decide_eq_true (by omega)
     have hj0 : (0 : Int) ≤ (j : Int) := by omega
     have hj1 : (j : Int) < (LV : Int) := by omega
     have hjl : j < vds.length := by rw [HLV.out]; exact hltj
     have hjm : j < vits.length := by rw [HVL.out]; exact hltj
     have hpn := parB_next pre vits j hjm
     have hpl2 := Nat.le_trans (parB_le pre vits (j + 1) (by rw [HVL.out]; omega)) HPP.out
     rw [HVG.out j hjl hjm] at hpn
     rw [hpn] at hpl2
     simp only [List.length_append, List.length_cons, List.length_nil] at hpl2
     have hgi := HGV.out vds[j] (List.getElem_mem hjl)
     obtain ⟨gd, od, ys, rfl, -, p1, p2⟩ := HND.out j hjl
     obtain ⟨ts, us, rfl, ht, hu⟩ := vd_cells p2
     have hil2 : (inpB vds[j].name vds[j].t vds[j].has vds[j].v).length ≤ 1000000000000 := by omega
     have hrec := fun (wx : World) (ox : Only (fun _ => False) w wx) => prI_any vds[j].name vds[j].t vds[j].has vds[j].v (goodI_wellP hgi) G wx ts us (CellsAt.only ox (fun _ _ h => h) _ _ ht) (CellsAt.only ox (fun _ _ h => h) _ _ hu) hil2
     obtain ⟨s1, a1, m1, c1, b1, rfl⟩ := trC_form2 ht
     obtain ⟨vk, vn, vs, va, vl, vc, va2, vl2, vc2, rfl⟩ := valC_form2 hu
     obtain ⟨f0, f1, f2, f3, f4, f5, f6, f7, f8, f9⟩ := cells10_of p1
     generalize inpB vds[j].name vds[j].t vds[j].has vds[j].v = ib at *
     generalize vds[j].name = dn at *
     generalize vds[j].has = dh at *
     obtain ⟨Q, hQ⟩ : ∃ Q, parB pre vits j = Q := ⟨_, rfl⟩
     obtain ⟨Q', hQ'⟩ : ∃ Q, parB pre vits (j + 1) = Q := ⟨_, rfl⟩
     rw [hQ] at hal2 hpn ⊢
     rw [hQ'] at hpn
     have HPN := Lib.hid hpn; have HQ' := Lib.hid hQ'
     have oww : Only (fun _ => False) w wr := HOB.out.trans HP.out
     have HX := Lib.hid (fun (wx : World) (ox : Only (fun _ => False) wr.drew wx) => have o := (Only.refl _ wr).drew.trans ox; have ow := oww.trans o; And.intro (keepc o c2) (And.intro (keepc ow f0) (And.intro (keepc ow f1) (And.intro (keepc ow f2) (And.intro (keepc ow f3) (And.intro (keepc ow f4) (And.intro (keepc ow f5) (And.intro (keepc ow f6) (And.intro (keepc ow f7) (And.intro (keepc ow f8) (keepc ow f9)))))))))))
     have HREC := Lib.hid (fun (wx : World) (ox : Only (fun _ => False) wr.drew wx) => hrec wx (oww.trans ((Only.refl _ wr).drew.trans ox)))
     clear hQ hQ' hpn hpl2 hgi hrec p1 p2 ht hu oww f0 f1 f2 f3 f4 f5 f6 f7 f8 f9 c3
     by_cases hzj : j = 0
     ·have t5 : ((j : Int) == 0) = true := by simp; omega
      rw [if_pos hzj] at HPN
      clear hzj
      go_upto_region 19 with (fail)
      clear c2
      refine wp_region_steps 28 (by kernel_rfl) rfl (by kernel_rfl) [some 51, some 52, some 53, some 54, some 55, some 56, some 57, some 58, some 59, some 60, some 61, some 62, some 63, some 64, some 65, some 66, some 67, some 68, some 69, some 70, some 71, some 72, some 73, some 74, some 75, some 76, some 77, some 78] rfl rfl (fun _ => False) [(fun v _ => v = (.string (⟨Q.toArray⟩ ++ ⟨#[40]⟩))), (fun v _ => v = (.pointer (some ⟨bA, 2, none⟩))), (fun v _ => v = (.slice (some ⟨gd, od, none⟩) LV cv)), (fun v _ => v = (.int .i64 (j : Int))), (fun v _ => v = (.pointer (some ⟨gd, od + j * 10, none⟩))), (fun v _ => v = (.pointer (some ⟨gd, od + j * 10, none⟩))), (fun v _ => v = (.string ⟨dn.toArray⟩)), (fun v _ => v = (.pointer (some ⟨bA, 2, none⟩))), (fun v _ => v = (.slice (some ⟨gd, od, none⟩) LV cv)), (fun v _ => v = (.int .i64 (j : Int))), (fun v _ => v = (.pointer (some ⟨gd, od + j * 10, none⟩))), (fun v _ => v = (.pointer (some ⟨gd, od + j * 10 + 1, none⟩))), (fun v _ => v = (.agg #[.string ⟨s1.toArray⟩, .slice a1 m1 c1, .bool b1])), (fun v _ => v = (.pointer (some ⟨bA, 2, none⟩))), (fun v _ => v = (.slice (some ⟨gd, od, none⟩) LV cv)), (fun v _ => v = (.int .i64 (j : Int))), (fun v _ => v = (.pointer (some ⟨gd, od + j * 10, none⟩))), (fun v _ => v = (.pointer (some ⟨gd, od + j * 10 + 4, none⟩))), (fun v _ => v = (.bool dh)), (fun v _ => v = (.pointer (some ⟨bA, 2, none⟩))), (fun v _ => v = (.slice (some ⟨gd, od, none⟩) LV cv)), (fun v _ => v = (.int .i64 (j : Int))), (fun v _ => v = (.pointer (some ⟨gd, od + j * 10, none⟩))), (fun v _ => v = (.pointer (some ⟨gd, od + j * 10 + 5, none⟩))), (fun v _ => v = (.agg #[.int .u8 (vk : Int), .int .i64 vn, .string ⟨vs.toArray⟩, .slice va vl vc, .slice va2 vl2 vc2])), (fun v _ => v = (.string ⟨ib.toArray⟩)), (fun v _ => v = (.string (⟨#[36]⟩ ++ ⟨ib.toArray⟩))), (fun v _ => v = (.string (⟨Q.toArray⟩ ++ ⟨#[40]⟩ ++ (⟨#[36]⟩ ++ ⟨ib.toArray⟩))))] rfl ⟨?_, ?_, ?_, ?_, ?_, ?_, ?_, ?_, ?_, ?_, ?_, ?_, ?_, ?_, ?_, ?_, ?_, ?_, ?_, ?_, ?_, ?_, ?_, ?_, ?_, ?_, ?_, ?_, trivial⟩ _ rfl ⟨?_, ?_, ?_, ?_, ?_, ?_, ?_, ?_, ?_, ?_, ?_, ?_, ?_, ?_, ?_, ?_, ?_, ?_, ?_, ?_, ?_, ?_, ?_, ?_, ?_, ?_, ?_, ?_, trivial⟩ ?_
      ·exact Stable.is _ _
      ·exact Stable.is _ _
      ·exact Stable.is _ _
      ·exact Stable.is _ _
      ·exact Stable.is _ _
      ·exact Stable.is _ _
      ·exact Stable.is _ _
      ·exact Stable.is _ _
      ·exact Stable.is _ _
      ·exact Stable.is _ _
      ·exact Stable.is _ _
      ·exact Stable.is _ _
      ·exact Stable.is _ _
      ·exact Stable.is _ _
      ·exact Stable.is _ _
      ·exact Stable.is _ _
      ·exact Stable.is _ _
      ·exact Stable.is _ _
      ·exact Stable.is _ _
      ·exact Stable.is _ _
      ·exact Stable.is _ _
      ·exact Stable.is _ _
      ·exact Stable.is _ _
      ·exact Stable.is _ _
      ·exact Stable.is _ _
      ·exact Stable.is _ _
      ·exact Stable.is _ _
      ·exact Stable.is _ _
      ·intro x wx ox hN TT HTT
       clear hN
       unfold StepTo
       simp only [putAll, Act.put, List.setIfInBounds_toArray, List.set_cons_succ, List.set_cons_zero]
       go_wp2_with fail
       exact ⟨rfl, _, rfl, HTT.out _ _ (rfl) (Only.refl _ _)⟩
      ·intro x wx ox hN TT HTT
       clear hN
       unfold StepTo
       simp only [putAll, Act.put, List.setIfInBounds_toArray, List.set_cons_succ, List.set_cons_zero]
       go_wp2_with fail
       exact ⟨rfl, _, rfl, HTT.out _ _ (rfl) (Only.refl _ _)⟩
      ·intro x wx ox hN TT HTT
       have r52 : x 1 = (.pointer (some ⟨bA, 2, none⟩)) := hN.1 rfl
       clear hN
       unfold StepTo
       simp only [putAll, Act.put, List.setIfInBounds_toArray, List.set_cons_succ, List.set_cons_zero, r52]
       clear r52
       obtain ⟨mm0, mm1, mm2, mm3, mm4, mm5, mm6, mm7, mm8, mm9, mm10⟩ := HX.out wx ox
       go_wp2_with fail
       exact ⟨rfl, _, rfl, HTT.out _ _ (rfl) (Only.refl _ _)⟩
      ·intro x wx ox hN TT HTT
       clear hN
       unfold StepTo
       simp only [putAll, Act.put, List.setIfInBounds_toArray, List.set_cons_succ, List.set_cons_zero]
       go_wp2_with fail
       exact ⟨rfl, _, rfl, HTT.out _ _ (rfl) (Only.refl _ _)⟩
      ·intro x wx ox hN TT HTT
       have r53 : x 2 = (.slice (some ⟨gd, od, none⟩) LV cv) := hN.1 rfl
       have r54 : x 3 = (.int .i64 (j : Int)) := hN.2.1 rfl
       clear hN
       unfold StepTo
       simp only [putAll, Act.put, List.setIfInBounds_toArray, List.set_cons_succ, List.set_cons_zero, r53, r54]
       clear r53 r54
       go_wp2_with fail
       exact ⟨rfl, _, rfl, HTT.out _ _ (rfl) (Only.refl _ _)⟩
      ·intro x wx ox hN TT HTT
       have r55 : x 4 = (.pointer (some ⟨gd, od + j * 10, none⟩)) := hN.1 rfl
       clear hN
       unfold StepTo
       simp only [putAll, Act.put, List.setIfInBounds_toArray, List.set_cons_succ, List.set_cons_zero, r55]
       clear r55
       go_wp2_with fail
       exact ⟨rfl, _, rfl, HTT.out _ _ (rfl) (Only.refl _ _)⟩
      ·intro x wx ox hN TT HTT
       have r56 : x 5 = (.pointer (some ⟨gd, od + j * 10, none⟩)) := hN.1 rfl
       clear hN
       unfold StepTo
       simp only [putAll, Act.put, List.setIfInBounds_toArray, List.set_cons_succ, List.set_cons_zero, r56]
       clear r56
       obtain ⟨mm0, mm1, mm2, mm3, mm4, mm5, mm6, mm7, mm8, mm9, mm10⟩ := HX.out wx ox
       go_wp2_with fail
       exact ⟨rfl, _, rfl, HTT.out _ _ (rfl) (Only.refl _ _)⟩
      ·intro x wx ox hN TT HTT
       clear hN
       unfold StepTo
       simp only [putAll, Act.put, List.setIfInBounds_toArray, List.set_cons_succ, List.set_cons_zero]
       go_wp2_with fail
       exact ⟨rfl, _, rfl, HTT.out _ _ (rfl) (Only.refl _ _)⟩
      ·intro x wx ox hN TT HTT
       have r58 : x 7 = (.pointer (some ⟨bA, 2, none⟩)) := hN.1 rfl
       clear hN
       unfold StepTo
       simp only [putAll, Act.put, List.setIfInBounds_toArray, List.set_cons_succ, List.set_cons_zero, r58]
       clear r58
       obtain ⟨mm0, mm1, mm2, mm3, mm4, mm5, mm6, mm7, mm8, mm9, mm10⟩ := HX.out wx ox
       go_wp2_with fail
       exact ⟨rfl, _, rfl, HTT.out _ _ (rfl) (Only.refl _ _)⟩
      ·intro x wx ox hN TT HTT
       clear hN
       unfold StepTo
       simp only [putAll, Act.put, List.setIfInBounds_toArray, List.set_cons_succ, List.set_cons_zero]
       go_wp2_with fail
       exact ⟨rfl, _, rfl, HTT.out _ _ (rfl) (Only.refl _ _)⟩
      ·intro x wx ox hN TT HTT
       have r59 : x 8 = (.slice (some ⟨gd, od, none⟩) LV cv) := hN.1 rfl
       have r60 : x 9 = (.int .i64 (j : Int)) := hN.2.1 rfl
       clear hN
       unfold StepTo
       simp only [putAll, Act.put, List.setIfInBounds_toArray, List.set_cons_succ, List.set_cons_zero, r59, r60]
       clear r59 r60
       go_wp2_with fail
       exact ⟨rfl, _, rfl, HTT.out _ _ (rfl) (Only.refl _ _)⟩
      ·intro x wx ox hN TT HTT
       have r61 : x 10 = (.pointer (some ⟨gd, od + j * 10, none⟩)) := hN.1 rfl
       clear hN
       unfold StepTo
       simp only [putAll, Act.put, List.setIfInBounds_toArray, List.set_cons_succ, List.set_cons_zero, r61]
       clear r61
       go_wp2_with fail
       exact ⟨rfl, _, rfl, HTT.out _ _ (rfl) (Only.refl _ _)⟩
      ·intro x wx ox hN TT HTT
       have r62 : x 11 = (.pointer (some ⟨gd, od + j * 10 + 1, none⟩)) := hN.1 rfl
       clear hN
       unfold StepTo
       simp only [putAll, Act.put, List.setIfInBounds_toArray, List.set_cons_succ, List.set_cons_zero, r62]
       clear r62
       obtain ⟨mm0, mm1, mm2, mm3, mm4, mm5, mm6, mm7, mm8, mm9, mm10⟩ := HX.out wx ox
       go_wp2_with fail
       exact ⟨rfl, _, rfl, HTT.out _ _ (rfl) (Only.refl _ _)⟩
      ·intro x wx ox hN TT HTT
       clear hN
       unfold StepTo
       simp only [putAll, Act.put, List.setIfInBounds_toArray, List.set_cons_succ, List.set_cons_zero]
       go_wp2_with fail
       exact ⟨rfl, _, rfl, HTT.out _ _ (rfl) (Only.refl _ _)⟩
      ·intro x wx ox hN TT HTT
       have r64 : x 13 = (.pointer (some ⟨bA, 2, none⟩)) := hN.1 rfl
       clear hN
       unfold StepTo
       simp only [putAll, Act.put, List.setIfInBounds_toArray, List.set_cons_succ, List.set_cons_zero, r64]
       clear r64
       obtain ⟨mm0, mm1, mm2, mm3, mm4, mm5, mm6, mm7, mm8, mm9, mm10⟩ := HX.out wx ox
       go_wp2_with fail
       exact ⟨rfl, _, rfl, HTT.out _ _ (rfl) (Only.refl _ _)⟩
      ·intro x wx ox hN TT HTT
       clear hN
       unfold StepTo
       simp only [putAll, Act.put, List.setIfInBounds_toArray, List.set_cons_succ, List.set_cons_zero]
       go_wp2_with fail
       exact ⟨rfl, _, rfl, HTT.out _ _ (rfl) (Only.refl _ _)⟩
      ·intro x wx ox hN TT HTT
       have r65 : x 14 = (.slice (some ⟨gd, od, none⟩) LV cv) := hN.1 rfl
       have r66 : x 15 = (.int .i64 (j : Int)) := hN.2.1 rfl
       clear hN
       unfold StepTo
       simp only [putAll, Act.put, List.setIfInBounds_toArray, List.set_cons_succ, List.set_cons_zero, r65, r66]
       clear r65 r66
       go_wp2_with fail
       exact ⟨rfl, _, rfl, HTT.out _ _ (rfl) (Only.refl _ _)⟩
      ·intro x wx ox hN TT HTT
       have r67 : x 16 = (.pointer (some ⟨gd, od + j * 10, none⟩)) := hN.1 rfl
       clear hN
       unfold StepTo
       simp only [putAll, Act.put, List.setIfInBounds_toArray, List.set_cons_succ, List.set_cons_zero, r67]
       clear r67
       go_wp2_with fail
       exact ⟨rfl, _, rfl, HTT.out _ _ (rfl) (Only.refl _ _)⟩
      ·intro x wx ox hN TT HTT
       have r68 : x 17 = (.pointer (some ⟨gd, od + j * 10 + 4, none⟩)) := hN.1 rfl
       clear hN
       unfold StepTo
       simp only [putAll, Act.put, List.setIfInBounds_toArray, List.set_cons_succ, List.set_cons_zero, r68]
       clear r68
       obtain ⟨mm0, mm1, mm2, mm3, mm4, mm5, mm6, mm7, mm8, mm9, mm10⟩ := HX.out wx ox
       go_wp2_with fail
       exact ⟨rfl, _, rfl, HTT.out _ _ (rfl) (Only.refl _ _)⟩
      ·intro x wx ox hN TT HTT
       clear hN
       unfold StepTo
       simp only [putAll, Act.put, List.setIfInBounds_toArray, List.set_cons_succ, List.set_cons_zero]
       go_wp2_with fail
       exact ⟨rfl, _, rfl, HTT.out _ _ (rfl) (Only.refl _ _)⟩
      ·intro x wx ox hN TT HTT
       have r70 : x 19 = (.pointer (some ⟨bA, 2, none⟩)) := hN.1 rfl
       clear hN
       unfold StepTo
       simp only [putAll, Act.put, List.setIfInBounds_toArray, List.set_cons_succ, List.set_cons_zero, r70]
       clear r70
       obtain ⟨mm0, mm1, mm2, mm3, mm4, mm5, mm6, mm7, mm8, mm9, mm10⟩ := HX.out wx ox
       go_wp2_with fail
       exact ⟨rfl, _, rfl, HTT.out _ _ (rfl) (Only.refl _ _)⟩
      ·intro x wx ox hN TT HTT
       clear hN
       unfold StepTo
       simp only [putAll, Act.put, List.setIfInBounds_toArray, List.set_cons_succ, List.set_cons_zero]
       go_wp2_with fail
       exact ⟨rfl, _, rfl, HTT.out _ _ (rfl) (Only.refl _ _)⟩
      ·intro x wx ox hN TT HTT
       have r71 : x 20 = (.slice (some ⟨gd, od, none⟩) LV cv) := hN.1 rfl
       have r72 : x 21 = (.int .i64 (j : Int)) := hN.2.1 rfl
       clear hN
       unfold StepTo
       simp only [putAll, Act.put, List.setIfInBounds_toArray, List.set_cons_succ, List.set_cons_zero, r71, r72]
       clear r71 r72
       go_wp2_with fail
       exact ⟨rfl, _, rfl, HTT.out _ _ (rfl) (Only.refl _ _)⟩
      ·intro x wx ox hN TT HTT
       have r73 : x 22 = (.pointer (some ⟨gd, od + j * 10, none⟩)) := hN.1 rfl
       clear hN
       unfold StepTo
       simp only [putAll, Act.put, List.setIfInBounds_toArray, List.set_cons_succ, List.set_cons_zero, r73]
       clear r73
       go_wp2_with fail
       exact ⟨rfl, _, rfl, HTT.out _ _ (rfl) (Only.refl _ _)⟩
      ·intro x wx ox hN TT HTT
       have r74 : x 23 = (.pointer (some ⟨gd, od + j * 10 + 5, none⟩)) := hN.1 rfl
       clear hN
       unfold StepTo
       simp only [putAll, Act.put, List.setIfInBounds_toArray, List.set_cons_succ, List.set_cons_zero, r74]
       clear r74
       obtain ⟨mm0, mm1, mm2, mm3, mm4, mm5, mm6, mm7, mm8, mm9, mm10⟩ := HX.out wx ox
       go_wp2_with fail
       exact ⟨rfl, _, rfl, HTT.out _ _ (rfl) (Only.refl _ _)⟩
      ·intro x wx ox hN TT HTT
       have r57 : x 6 = (.string ⟨dn.toArray⟩) := hN.1 rfl
       have r63 : x 12 = (.agg #[.string ⟨s1.toArray⟩, .slice a1 m1 c1, .bool b1]) := hN.2.1 rfl
       have r69 : x 18 = (.bool dh) := hN.2.2.1 rfl
       have r75 : x 24 = (.agg #[.int .u8 (vk : Int), .int .i64 vn, .string ⟨vs.toArray⟩, .slice va vl vc, .slice va2 vl2 vc2]) := hN.2.2.2.1 rfl
       clear hN
       unfold StepTo
       simp only [putAll, Act.put, List.setIfInBounds_toArray, List.set_cons_succ, List.set_cons_zero, r57, r63, r69, r75]
       clear r57 r63 r69 r75
       have ht := HREC.out wx ox
       have HT := Lib.hid ht; clear ht
       go_wp2_with fail
       refine HT.out.mono ?_
       rintro e w6 ⟨rfl, o6⟩
       have O6 := Lib.hid o6; clear o6
       go_wp2_with fail
       exact ⟨rfl, _, rfl, HTT.out _ _ (rfl) (O6.out)⟩
      ·intro x wx ox hN TT HTT
       have r76 : x 25 = (.string ⟨ib.toArray⟩) := hN.1 rfl
       clear hN
       unfold StepTo
       simp only [putAll, Act.put, List.setIfInBounds_toArray, List.set_cons_succ, List.set_cons_zero, r76]
       clear r76
       go_wp2_with fail
       exact ⟨rfl, _, rfl, HTT.out _ _ (rfl) (Only.refl _ _)⟩
      ·intro x wx ox hN TT HTT
       have r51 : x 0 = (.string (⟨Q.toArray⟩ ++ ⟨#[40]⟩)) := hN.1 rfl
       have r77 : x 26 = (.string (⟨#[36]⟩ ++ ⟨ib.toArray⟩)) := hN.2.1 rfl
       clear hN
       unfold StepTo
       simp only [putAll, Act.put, List.setIfInBounds_toArray, List.set_cons_succ, List.set_cons_zero, r51, r77]
       clear r51 r77
       go_wp2_with fail
       exact ⟨rfl, _, rfl, HTT.out _ _ (rfl) (Only.refl _ _)⟩
      intro xz wxz oxz hN
      have r51 : xz 0 = (.string (⟨Q.toArray⟩ ++ ⟨#[40]⟩)) := hN.1
      have r52 : xz 1 = (.pointer (some ⟨bA, 2, none⟩)) := hN.2.1
      have r53 : xz 2 = (.slice (some ⟨gd, od, none⟩) LV cv) := hN.2.2.1
      have r54 : xz 3 = (.int .i64 (j : Int)) := hN.2.2.2.1
      have r55 : xz 4 = (.pointer (some ⟨gd, od + j * 10, none⟩)) := hN.2.2.2.2.1
      have r56 : xz 5 = (.pointer (some ⟨gd, od + j * 10, none⟩)) := hN.2.2.2.2.2.1
      have r57 : xz 6 = (.string ⟨dn.toArray⟩) := hN.2.2.2.2.2.2.1
      have r58 : xz 7 = (.pointer (some ⟨bA, 2, none⟩)) := hN.2.2.2.2.2.2.2.1
      have r59 : xz 8 = (.slice (some ⟨gd, od, none⟩) LV cv) := hN.2.2.2.2.2.2.2.2.1
      have r60 : xz 9 = (.int .i64 (j : Int)) := hN.2.2.2.2.2.2.2.2.2.1
      have r61 : xz 10 = (.pointer (some ⟨gd, od + j * 10, none⟩)) := hN.2.2.2.2.2.2.2.2.2.2.1
      have r62 : xz 11 = (.pointer (some ⟨gd, od + j * 10 + 1, none⟩)) := hN.2.2.2.2.2.2.2.2.2.2.2.1
      have r63 : xz 12 = (.agg #[.string ⟨s1.toArray⟩, .slice a1 m1 c1, .bool b1]) := hN.2.2.2.2.2.2.2.2.2.2.2.2.1
      have r64 : xz 13 = (.pointer (some ⟨bA, 2, none⟩)) := hN.2.2.2.2.2.2.2.2.2.2.2.2.2.1
      have r65 : xz 14 = (.slice (some ⟨gd, od, none⟩) LV cv) := hN.2.2.2.2.2.2.2.2.2.2.2.2.2.2.1
      have r66 : xz 15 = (.int .i64 (j : Int)) := hN.2.2.2.2.2.2.2.2.2.2.2.2.2.2.2.1
      have r67 : xz 16 = (.pointer (some ⟨gd, od + j * 10, none⟩)) := hN.2.2.2.2.2.2.2.2.2.2.2.2.2.2.2.2.1
      have r68 : xz 17 = (.pointer (some ⟨gd, od + j * 10 + 4, none⟩)) := hN.2.2.2.2.2.2.2.2.2.2.2.2.2.2.2.2.2.1
      have r69 : xz 18 = (.bool dh) := hN.2.2.2.2.2.2.2.2.2.2.2.2.2.2.2.2.2.2.1
      have r70 : xz 19 = (.pointer (some ⟨bA, 2, none⟩)) := hN.2.2.2.2.2.2.2.2.2.2.2.2.2.2.2.2.2.2.2.1
      have r71 : xz 20 = (.slice (some ⟨gd, od, none⟩) LV cv) := hN.2.2.2.2.2.2.2.2.2.2.2.2.2.2.2.2.2.2.2.2.1
      have r72 : xz 21 = (.int .i64 (j : Int)) := hN.2.2.2.2.2.2.2.2.2.2.2.2.2.2.2.2.2.2.2.2.2.1
      have r73 : xz 22 = (.pointer (some ⟨gd, od + j * 10, none⟩)) := hN.2.2.2.2.2.2.2.2.2.2.2.2.2.2.2.2.2.2.2.2.2.2.1
      have r74 : xz 23 = (.pointer (some ⟨gd, od + j * 10 + 5, none⟩)) := hN.2.2.2.2.2.2.2.2.2.2.2.2.2.2.2.2.2.2.2.2.2.2.2.1
      have r75 : xz 24 = (.agg #[.int .u8 (vk : Int), .int .i64 vn, .string ⟨vs.toArray⟩, .slice va vl vc, .slice va2 vl2 vc2]) := hN.2.2.2.2.2.2.2.2.2.2.2.2.2.2.2.2.2.2.2.2.2.2.2.2.1
      have r76 : xz 25 = (.string ⟨ib.toArray⟩) := hN.2.2.2.2.2.2.2.2.2.2.2.2.2.2.2.2.2.2.2.2.2.2.2.2.2.1
      have r77 : xz 26 = (.string (⟨#[36]⟩ ++ ⟨ib.toArray⟩)) := hN.2.2.2.2.2.2.2.2.2.2.2.2.2.2.2.2.2.2.2.2.2.2.2.2.2.2.1
      have r78 : xz 27 = (.string (⟨Q.toArray⟩ ++ ⟨#[40]⟩ ++ (⟨#[36]⟩ ++ ⟨ib.toArray⟩))) := hN.2.2.2.2.2.2.2.2.2.2.2.2.2.2.2.2.2.2.2.2.2.2.2.2.2.2.2.1
      clear hN
      simp only [putAll, Act.put, List.setIfInBounds_toArray, List.set_cons_succ, List.set_cons_zero, r51, r52, r53, r54, r55, r56, r57, r58, r59, r60, r61, r62, r63, r64, r65, r66, r67, r68, r69, r70, r71, r72, r73, r74, r75, r76, r77, r78]
      clear r51 r52 r53 r54 r55 r56 r57 r58 r59 r60 r61 r62 r63 r64 r65 r66 r67 r68 r69 r70 r71 r72 r73 r74 r75 r76 r77 r78
      have OY := Lib.hid (HP.out.trans ((Only.refl _ wr).drew.trans oxz)); clear oxz
      go_wp2_with fail
      go_roundw
      case rel => exact ⟨j + 1, by simp, by omega, by rw [HQ'.out, HPN.out]; simp only [← cat_list], OY⟩
      case measure => simp [intOf]; omega
     skip
     have t5 : ((j : Int) == 0) = false := by simp; omega
     rw [if_neg hzj] at HPN
     clear hzj
     go_upto_region 19 with (fail)
     clear c2
     refine wp_region_steps 28 (by kernel_rfl) rfl (by kernel_rfl) [some 51, some 52, some 53, some 54, some 55, some 56, some 57, some 58, some 59, some 60, some 61, some 62, some 63, some 64, some 65, some 66, some 67, some 68, some 69, some 70, some 71, some 72, some 73, some 74, some 75, some 76, some 77, some 78] rfl rfl (fun _ => False) [(fun v _ => v = (.string (⟨Q.toArray⟩ ++ ⟨#[44, 32]⟩))), (fun v _ => v = (.pointer (some ⟨bA, 2, none⟩))), (fun v _ => v = (.slice (some ⟨gd, od, none⟩) LV cv)), (fun v _ => v = (.int .i64 (j : Int))), (fun v _ => v = (.pointer (some ⟨gd, od + j * 10, none⟩))), (fun v _ => v = (.pointer (some ⟨gd, od + j * 10, none⟩))), (fun v _ => v = (.string ⟨dn.toArray⟩)), (fun v _ => v = (.pointer (some ⟨bA, 2, none⟩))), (fun v _ => v = (.slice (some ⟨gd, od, none⟩) LV cv)), (fun v _ => v = (.int .i64 (j : Int))), (fun v _ => v = (.pointer (some ⟨gd, od + j * 10, none⟩))), (fun v _ => v = (.pointer (some ⟨gd, od + j * 10 + 1, none⟩))), (fun v _ => v = (.agg #[.string ⟨s1.toArray⟩, .slice a1 m1 c1, .bool b1])), (fun v _ => v = (.pointer (some ⟨bA, 2, none⟩))), (fun v _ => v = (.slice (some ⟨gd, od, none⟩) LV cv)), (fun v _ => v = (.int .i64 (j : Int))), (fun v _ => v = (.pointer (some ⟨gd, od + j * 10, none⟩))), (fun v _ => v = (.pointer (some ⟨gd, od + j * 10 + 4, none⟩))), (fun v _ => v = (.bool dh)), (fun v _ => v = (.pointer (some ⟨bA, 2, none⟩))), (fun v _ => v = (.slice (some ⟨gd, od, none⟩) LV cv)), (fun v _ => v = (.int .i64 (j : Int))), (fun v _ => v = (.pointer (some ⟨gd, od + j * 10, none⟩))), (fun v _ => v = (.pointer (some ⟨gd, od + j * 10 + 5, none⟩))), (fun v _ => v = (.agg #[.int .u8 (vk : Int), .int .i64 vn, .string ⟨vs.toArray⟩, .slice va vl vc, .slice va2 vl2 vc2])), (fun v _ => v = (.string ⟨ib.toArray⟩)), (fun v _ => v = (.string (⟨#[36]⟩ ++ ⟨ib.toArray⟩))), (fun v _ => v = (.string (⟨Q.toArray⟩ ++ ⟨#[44, 32]⟩ ++ (⟨#[36]⟩ ++ ⟨ib.toArray⟩))))] rfl ⟨?_, ?_, ?_, ?_, ?_, ?_, ?_, ?_, ?_, ?_, ?_, ?_, ?_, ?_, ?_, ?_, ?_, ?_, ?_, ?_, ?_, ?_, ?_, ?_, ?_, ?_, ?_, ?_, trivial⟩ _ rfl ⟨?_, ?_, ?_, ?_, ?_, ?_, ?_, ?_, ?_, ?_, ?_, ?_, ?_, ?_, ?_, ?_, ?_, ?_, ?_, ?_, ?_, ?_, ?_, ?_, ?_, ?_, ?_, ?_, trivial⟩ ?_
     ·exact Stable.is _ _
     ·exact Stable.is _ _
     ·exact Stable.is _ _
     ·exact Stable.is _ _
     ·exact Stable.is _ _
     ·exact Stable.is _ _
     ·exact Stable.is _ _
     ·exact Stable.is _ _
     ·exact Stable.is _ _
     ·exact Stable.is _ _
     ·exact Stable.is _ _
     ·exact Stable.is _ _
     ·exact Stable.is _ _
     ·exact Stable.is _ _
     ·exact Stable.is _ _
     ·exact Stable.is _ _
     ·exact Stable.is _ _
     ·exact Stable.is _ _
     ·exact Stable.is _ _
     ·exact Stable.is _ _
     ·exact Stable.is _ _
     ·exact Stable.is _ _
     ·exact Stable.is _ _
     ·exact Stable.is _ _
     ·exact Stable.is _ _
     ·exact Stable.is _ _
     ·exact Stable.is _ _
     ·exact Stable.is _ _
     ·intro x wx ox hN TT HTT
      clear hN
      unfold StepTo
      simp only [putAll, Act.put, List.setIfInBounds_toArray, List.set_cons_succ, List.set_cons_zero]
      go_wp2_with fail
      exact ⟨rfl, _, rfl, HTT.out _ _ (rfl) (Only.refl _ _)⟩
     ·intro x wx ox hN TT HTT
      clear hN
      unfold StepTo
      simp only [putAll, Act.put, List.setIfInBounds_toArray, List.set_cons_succ, List.set_cons_zero]
      go_wp2_with fail
      exact ⟨rfl, _, rfl, HTT.out _ _ (rfl) (Only.refl _ _)⟩
     ·intro x wx ox hN TT HTT
      have r52 : x 1 = (.pointer (some ⟨bA, 2, none⟩)) := hN.1 rfl
      clear hN
      unfold StepTo
      simp only [putAll, Act.put, List.setIfInBounds_toArray, List.set_cons_succ, List.set_cons_zero, r52]
      clear r52
      obtain ⟨mm0, mm1, mm2, mm3, mm4, mm5, mm6, mm7, mm8, mm9, mm10⟩ := HX.out wx ox
      go_wp2_with fail
      exact ⟨rfl, _, rfl, HTT.out _ _ (rfl) (Only.refl _ _)⟩
     ·intro x wx ox hN TT HTT
      clear hN
      unfold StepTo
      simp only [putAll, Act.put, List.setIfInBounds_toArray, List.set_cons_succ, List.set_cons_zero]
      go_wp2_with fail
      exact ⟨rfl, _, rfl, HTT.out _ _ (rfl) (Only.refl _ _)⟩
     ·intro x wx ox hN TT HTT
      have r53 : x 2 = (.slice (some ⟨gd, od, none⟩) LV cv) := hN.1 rfl
      have r54 : x 3 = (.int .i64 (j : Int)) := hN.2.1 rfl
      clear hN
      unfold StepTo
      simp only [putAll, Act.put, List.setIfInBounds_toArray, List.set_cons_succ, List.set_cons_zero, r53, r54]
      clear r53 r54
      go_wp2_with fail
      exact ⟨rfl, _, rfl, HTT.out _ _ (rfl) (Only.refl _ _)⟩
     ·intro x wx ox hN TT HTT
      have r55 : x 4 = (.pointer (some ⟨gd, od + j * 10, none⟩)) := hN.1 rfl
      clear hN
      unfold StepTo
      simp only [putAll, Act.put, List.setIfInBounds_toArray, List.set_cons_succ, List.set_cons_zero, r55]
      clear r55
      go_wp2_with fail
      exact ⟨rfl, _, rfl, HTT.out _ _ (rfl) (Only.refl _ _)⟩
     ·intro x wx ox hN TT HTT
      have r56 : x 5 = (.pointer (some ⟨gd, od + j * 10, none⟩)) := hN.1 rfl
      clear hN
      unfold StepTo
      simp only [putAll, Act.put, List.setIfInBounds_toArray, List.set_cons_succ, List.set_cons_zero, r56]
      clear r56
      obtain ⟨mm0, mm1, mm2, mm3, mm4, mm5, mm6, mm7, mm8, mm9, mm10⟩ := HX.out wx ox
      go_wp2_with fail
      exact ⟨rfl, _, rfl, HTT.out _ _ (rfl) (Only.refl _ _)⟩
     ·intro x wx ox hN TT HTT
      clear hN
      unfold StepTo
      simp only [putAll, Act.put, List.setIfInBounds_toArray, List.set_cons_succ, List.set_cons_zero]
      go_wp2_with fail
      exact ⟨rfl, _, rfl, HTT.out _ _ (rfl) (Only.refl _ _)⟩
     ·intro x wx ox hN TT HTT
      have r58 : x 7 = (.pointer (some ⟨bA, 2, none⟩)) := hN.1 rfl
      clear hN
      unfold StepTo
      simp only [putAll, Act.put, List.setIfInBounds_toArray, List.set_cons_succ, List.set_cons_zero, r58]
      clear r58
      obtain ⟨mm0, mm1, mm2, mm3, mm4, mm5, mm6, mm7, mm8, mm9, mm10⟩ := HX.out wx ox
      go_wp2_with fail
      exact ⟨rfl, _, rfl, HTT.out _ _ (rfl) (Only.refl _ _)⟩
     ·intro x wx ox hN TT HTT
      clear hN
      unfold StepTo
      simp only [putAll, Act.put, List.setIfInBounds_toArray, List.set_cons_succ, List.set_cons_zero]
      go_wp2_with fail
      exact ⟨rfl, _, rfl, HTT.out _ _ (rfl) (Only.refl _ _)⟩
     ·intro x wx ox hN TT HTT
      have r59 : x 8 = (.slice (some ⟨gd, od, none⟩) LV cv) := hN.1 rfl
      have r60 : x 9 = (.int .i64 (j : Int)) := hN.2.1 rfl
      clear hN
      unfold StepTo
      simp only [putAll, Act.put, List.setIfInBounds_toArray, List.set_cons_succ, List.set_cons_zero, r59, r60]
      clear r59 r60
      go_wp2_with fail
      exact ⟨rfl, _, rfl, HTT.out _ _ (rfl) (Only.refl _ _)⟩
     ·intro x wx ox hN TT HTT
      have r61 : x 10 = (.pointer (some ⟨gd, od + j * 10, none⟩)) := hN.1 rfl
      clear hN
      unfold StepTo
      simp only [putAll, Act.put, List.setIfInBounds_toArray, List.set_cons_succ, List.set_cons_zero, r61]
      clear r61
      go_wp2_with fail
      exact ⟨rfl, _, rfl, HTT.out _ _ (rfl) (Only.refl _ _)⟩
     ·intro x wx ox hN TT HTT
      have r62 : x 11 = (.pointer (some ⟨gd, od + j * 10 + 1, none⟩)) := hN.1 rfl
      clear hN
      unfold StepTo
      simp only [putAll, Act.put, List.setIfInBounds_toArray, List.set_cons_succ, List.set_cons_zero, r62]
      clear r62
      obtain ⟨mm0, mm1, mm2, mm3, mm4, mm5, mm6, mm7, mm8, mm9, mm10⟩ := HX.out wx ox
      go_wp2_with fail
      exact ⟨rfl, _, rfl, HTT.out _ _ (rfl) (Only.refl _ _)⟩
     ·intro x wx ox hN TT HTT
      clear hN
      unfold StepTo
      simp only [putAll, Act.put, List.setIfInBounds_toArray, List.set_cons_succ, List.set_cons_zero]
      go_wp2_with fail
      exact ⟨rfl, _, rfl, HTT.out _ _ (rfl) (Only.refl _ _)⟩
     ·intro x wx ox hN TT HTT
      have r64 : x 13 = (.pointer (some ⟨bA, 2, none⟩)) := hN.1 rfl
      clear hN
      unfold StepTo
      simp only [putAll, Act.put, List.setIfInBounds_toArray, List.set_cons_succ, List.set_cons_zero, r64]
      clear r64
      obtain ⟨mm0, mm1, mm2, mm3, mm4, mm5, mm6, mm7, mm8, mm9, mm10⟩ := HX.out wx ox
      go_wp2_with fail
      exact ⟨rfl, _, rfl, HTT.out _ _ (rfl) (Only.refl _ _)⟩
     ·intro x wx ox hN TT HTT
      clear hN
      unfold StepTo
      simp only [putAll, Act.put, List.setIfInBounds_toArray, List.set_cons_succ, List.set_cons_zero]
      go_wp2_with fail
      exact ⟨rfl, _, rfl, HTT.out _ _ (rfl) (Only.refl _ _)⟩
     ·intro x wx ox hN TT HTT
      have r65 : x 14 = (.slice (some ⟨gd, od, none⟩) LV cv) := hN.1 rfl
      have r66 : x 15 = (.int .i64 (j : Int)) := hN.2.1 rfl
      clear hN
      unfold StepTo
      simp only [putAll, Act.put, List.setIfInBounds_toArray, List.set_cons_succ, List.set_cons_zero, r65, r66]
      clear r65 r66
      go_wp2_with fail
      exact ⟨rfl, _, rfl, HTT.out _ _ (rfl) (Only.refl _ _)⟩
     ·intro x wx ox hN TT HTT
      have r67 : x 16 = (.pointer (some ⟨gd, od + j * 10, none⟩)) := hN.1 rfl
      clear hN
      unfold StepTo
      simp only [putAll, Act.put, List.setIfInBounds_toArray, List.set_cons_succ, List.set_cons_zero, r67]
      clear r67
      go_wp2_with fail
      exact ⟨rfl, _, rfl, HTT.out _ _ (rfl) (Only.refl _ _)⟩
     ·intro x wx ox hN TT HTT
      have r68 : x 17 = (.pointer (some ⟨gd, od + j * 10 + 4, none⟩)) := hN.1 rfl
      clear hN
      unfold StepTo
      simp only [putAll, Act.put, List.setIfInBounds_toArray, List.set_cons_succ, List.set_cons_zero, r68]
      clear r68
      obtain ⟨mm0, mm1, mm2, mm3, mm4, mm5, mm6, mm7, mm8, mm9, mm10⟩ := HX.out wx ox
      go_wp2_with fail
      exact ⟨rfl, _, rfl, HTT.out _ _ (rfl) (Only.refl _ _)⟩
     ·intro x wx ox hN TT HTT
      clear hN
      unfold StepTo
      simp only [putAll, Act.put, List.setIfInBounds_toArray, List.set_cons_succ, List.set_cons_zero]
      go_wp2_with fail
      exact ⟨rfl, _, rfl, HTT.out _ _ (rfl) (Only.refl _ _)⟩
     ·intro x wx ox hN TT HTT
      have r70 : x 19 = (.pointer (some ⟨bA, 2, none⟩)) := hN.1 rfl
      clear hN
      unfold StepTo
      simp only [putAll, Act.put, List.setIfInBounds_toArray, List.set_cons_succ, List.set_cons_zero, r70]
      clear r70
      obtain ⟨mm0, mm1, mm2, mm3, mm4, mm5, mm6, mm7, mm8, mm9, mm10⟩ := HX.out wx ox
      go_wp2_with fail
      exact ⟨rfl, _, rfl, HTT.out _ _ (rfl) (Only.refl _ _)⟩
     ·intro x wx ox hN TT HTT
      clear hN
      unfold StepTo
      simp only [putAll, Act.put, List.setIfInBounds_toArray, List.set_cons_succ, List.set_cons_zero]
      go_wp2_with fail
      exact ⟨rfl, _, rfl, HTT.out _ _ (rfl) (Only.refl _ _)⟩
     ·intro x wx ox hN TT HTT
      have r71 : x 20 = (.slice (some ⟨gd, od, none⟩) LV cv) := hN.1 rfl
      have r72 : x 21 = (.int .i64 (j : Int)) := hN.2.1 rfl
      clear hN
      unfold StepTo
      simp only [putAll, Act.put, List.setIfInBounds_toArray, List.set_cons_succ, List.set_cons_zero, r71, r72]
      clear r71 r72
      go_wp2_with fail
      exact ⟨rfl, _, rfl, HTT.out _ _ (rfl) (Only.refl _ _)⟩
     ·intro x wx ox hN TT HTT
      have r73 : x 22 = (.pointer (some ⟨gd, od + j * 10, none⟩)) := hN.1 rfl
      clear hN
      unfold StepTo
      simp only [putAll, Act.put, List.setIfInBounds_toArray, List.set_cons_succ, List.set_cons_zero, r73]
      clear r73
      go_wp2_with fail
      exact ⟨rfl, _, rfl, HTT.out _ _ (rfl) (Only.refl _ _)⟩
     ·intro x wx ox hN TT HTT
      have r74 : x 23 = (.pointer (some ⟨gd, od + j * 10 + 5, none⟩)) := hN.1 rfl
      clear hN
      unfold StepTo
      simp only [putAll, Act.put, List.setIfInBounds_toArray, List.set_cons_succ, List.set_cons_zero, r74]
      clear r74
      obtain ⟨mm0, mm1, mm2, mm3, mm4, mm5, mm6, mm7, mm8, mm9, mm10⟩ := HX.out wx ox
      go_wp2_with fail
      exact ⟨rfl, _, rfl, HTT.out _ _ (rfl) (Only.refl _ _)⟩
     ·intro x wx ox hN TT HTT
      have r57 : x 6 = (.string ⟨dn.toArray⟩) := hN.1 rfl
      have r63 : x 12 = (.agg #[.string ⟨s1.toArray⟩, .slice a1 m1 c1, .bool b1]) := hN.2.1 rfl
      have r69 : x 18 = (.bool dh) := hN.2.2.1 rfl
      have r75 : x 24 = (.agg #[.int .u8 (vk : Int), .int .i64 vn, .string ⟨vs.toArray⟩, .slice va vl vc, .slice va2 vl2 vc2]) := hN.2.2.2.1 rfl
      clear hN
      unfold StepTo
      simp only [putAll, Act.put, List.setIfInBounds_toArray, List.set_cons_succ, List.set_cons_zero, r57, r63, r69, r75]
      clear r57 r63 r69 r75
      have ht := HREC.out wx ox
      have HT := Lib.hid ht; clear ht
      go_wp2_with fail
      refine HT.out.mono ?_
      rintro e w6 ⟨rfl, o6⟩
      have O6 := Lib.hid o6; clear o6
      go_wp2_with fail
      exact ⟨rfl, _, rfl, HTT.out _ _ (rfl) (O6.out)⟩
     ·intro x wx ox hN TT HTT
      have r76 : x 25 = (.string ⟨ib.toArray⟩) := hN.1 rfl
      clear hN
      unfold StepTo
      simp only [putAll, Act.put, List.setIfInBounds_toArray, List.set_cons_succ, List.set_cons_zero, r76]
      clear r76
      go_wp2_with fail
      exact ⟨rfl, _, rfl, HTT.out _ _ (rfl) (Only.refl _ _)⟩
     ·intro x wx ox hN TT HTT
      have r51 : x 0 = (.string (⟨Q.toArray⟩ ++ ⟨#[44, 32]⟩)) := hN.1 rfl
      have r77 : x 26 = (.string (⟨#[36]⟩ ++ ⟨ib.toArray⟩)) := hN.2.1 rfl
      clear hN
      unfold StepTo
      simp only [putAll, Act.put, List.setIfInBounds_toArray, List.set_cons_succ, List.set_cons_zero, r51, r77]
      clear r51 r77
      go_wp2_with fail
      exact ⟨rfl, _, rfl, HTT.out _ _ (rfl) (Only.refl _ _)⟩
     intro xz wxz oxz hN
     have r51 : xz 0 = (.string (⟨Q.toArray⟩ ++ ⟨#[44, 32]⟩)) := hN.1
     have r52 : xz 1 = (.pointer (some ⟨bA, 2, none⟩)) := hN.2.1
     have r53 : xz 2 = (.slice (some ⟨gd, od, none⟩) LV cv) := hN.2.2.1
     have r54 : xz 3 = (.int .i64 (j : Int)) := hN.2.2.2.1
     have r55 : xz 4 = (.pointer (some ⟨gd, od + j * 10, none⟩)) := hN.2.2.2.2.1
     have r56 : xz 5 = (.pointer (some ⟨gd, od + j * 10, none⟩)) := hN.2.2.2.2.2.1
     have r57 : xz 6 = (.string ⟨dn.toArray⟩) := hN.2.2.2.2.2.2.1
     have r58 : xz 7 = (.pointer (some ⟨bA, 2, none⟩)) := hN.2.2.2.2.2.2.2.1
     have r59 : xz 8 = (.slice (some ⟨gd, od, none⟩) LV cv) := hN.2.2.2.2.2.2.2.2.1
     have r60 : xz 9 = (.int .i64 (j : Int)) := hN.2.2.2.2.2.2.2.2.2.1
     have r61 : xz 10 = (.pointer (some ⟨gd, od + j * 10, none⟩)) := hN.2.2.2.2.2.2.2.2.2.2.1
     have r62 : xz 11 = (.pointer (some ⟨gd, od + j * 10 + 1, none⟩)) := hN.2.2.2.2.2.2.2.2.2.2.2.1
     have r63 : xz 12 = (.agg #[.string ⟨s1.toArray⟩, .slice a1 m1 c1, .bool b1]) := hN.2.2.2.2.2.2.2.2.2.2.2.2.1
     have r64 : xz 13 = (.pointer (some ⟨bA, 2, none⟩)) := hN.2.2.2.2.2.2.2.2.2.2.2.2.2.1
     have r65 : xz 14 = (.slice (some ⟨gd, od, none⟩) LV cv) := hN.2.2.2.2.2.2.2.2.2.2.2.2.2.2.1
     have r66 : xz 15 = (.int .i64 (j : Int)) := hN.2.2.2.2.2.2.2.2.2.2.2.2.2.2.2.1
     have r67 : xz 16 = (.pointer (some ⟨gd, od + j * 10, none⟩)) := hN.2.2.2.2.2.2.2.2.2.2.2.2.2.2.2.2.1
     have r68 : xz 17 = (.pointer (some ⟨gd, od + j * 10 + 4, none⟩)) := hN.2.2.2.2.2.2.2.2.2.2.2.2.2.2.2.2.2.1
     have r69 : xz 18 = (.bool dh) := hN.2.2.2.2.2.2.2.2.2.2.2.2.2.2.2.2.2.2.1
     have r70 : xz 19 = (.pointer (some ⟨bA, 2, none⟩)) := hN.2.2.2.2.2.2.2.2.2.2.2.2.2.2.2.2.2.2.2.1
     have r71 : xz 20 = (.slice (some ⟨gd, od, none⟩) LV cv) := hN.2.2.2.2.2.2.2.2.2.2.2.2.2.2.2.2.2.2.2.2.1
     have r72 : xz 21 = (.int .i64 (j : Int)) := hN.2.2.2.2.2.2.2.2.2.2.2.2.2.2.2.2.2.2.2.2.2.1
     have r73 : xz 22 = (.pointer (some ⟨gd, od + j * 10, none⟩)) := hN.2.2.2.2.2.2.2.2.2.2.2.2.2.2.2.2.2.2.2.2.2.2.1
     have r74 : xz 23 = (.pointer (some ⟨gd, od + j * 10 + 5, none⟩)) := hN.2.2.2.2.2.2.2.2.2.2.2.2.2.2.2.2.2.2.2.2.2.2.2.1
     have r75 : xz 24 = (.agg #[.int .u8 (vk : Int), .int .i64 vn, .string ⟨vs.toArray⟩, .slice va vl vc, .slice va2 vl2 vc2]) := hN.2.2.2.2.2.2.2.2.2.2.2.2.2.2.2.2.2.2.2.2.2.2.2.2.1
     have r76 : xz 25 = (.string ⟨ib.toArray⟩) := hN.2.2.2.2.2.2.2.2.2.2.2.2.2.2.2.2.2.2.2.2.2.2.2.2.2.1
     have r77 : xz 26 = (.string (⟨#[36]⟩ ++ ⟨ib.toArray⟩)) := hN.2.2.2.2.2.2.2.2.2.2.2.2.2.2.2.2.2.2.2.2.2.2.2.2.2.2.1
     have r78 : xz 27 = (.string (⟨Q.toArray⟩ ++ ⟨#[44, 32]⟩ ++ (⟨#[36]⟩ ++ ⟨ib.toArray⟩))) := hN.2.2.2.2.2.2.2.2.2.2.2.2.2.2.2.2.2.2.2.2.2.2.2.2.2.2.2.1
     clear hN
     simp only [putAll, Act.put, List.setIfInBounds_toArray, List.set_cons_succ, List.set_cons_zero, r51, r52, r53, r54, r55, r56, r57, r58, r59, r60, r61, r62, r63, r64, r65, r66, r67, r68, r69, r70, r71, r72, r73, r74, r75, r76, r77, r78]
     clear r51 r52 r53 r54 r55 r56 r57 r58 r59 r60 r61 r62 r63 r64 r65 r66 r67 r68 r69 r70 r71 r72 r73 r74 r75 r76 r77 r78
     have OY := Lib.hid (HP.out.trans ((Only.refl _ wr).drew.trans oxz)); clear oxz
     go_wp2_with fail
     go_roundw
     case rel => exact ⟨j + 1, by simp, by omega, by rw [HQ'.out, HPN.out]; simp only [← cat_list], OY⟩
     case measure => simp [intOf]; omega
    ·have t4 : decide ((j : Int) < (LV : Int)) = false := decide_eq_false (by omega)
     have hjn : j = LV := by omega
     subst hjn
     have hend := HEND.out
     have hnx := HNX.out
     rw [HVL.out] at hend
     rw [hend] at hnx
     have hpp := HPP.out
     rw [hend] at hpp
     have HS := Lib.hid (HS2.out wr (HOB.out.trans HP.out))
     generalize parB pre vits j = Q at *
     by_cases hzj : 0 < j
     ·have t5 : decide ((j : Int) > 0) = true := decide_eq_true (by omega)
      rw [if_pos hzj] at hnx hpp
      have HNX2 := Lib.hid hnx
      clear hnx hend hpp
      go_wp2_with fail
      refine HS.out.mono ?_
      rintro e w6 ⟨rfl, o6⟩
      have HO6 := Lib.hid ((HZB.out.trans HP.out).trans o6)
      clear c2 c3 o6
      go_wp2_with fail
      go_roundw
      case rel => exact ⟨i + 1, by simp, by omega, by rw [HA'.out, HNX2.out]; simp only [← cat_list], HO6⟩
      case measure => simp [intOf]; omega
     have t5 : decide ((j : Int) > 0) = false := decide_eq_false (by omega)
     rw [if_neg hzj, List.append_nil] at hnx hpp
     have HNX2 := Lib.hid hnx
     clear hnx hend hpp
     go_wp2_with fail
     refine HS.out.mono ?_
     rintro e w6 ⟨rfl, o6⟩
     have HO6 := Lib.hid ((HZB.out.trans HP.out).trans o6)
     clear c2 c3 o6
     go_wp2_with fail
     go_roundw
     case rel => exact ⟨i + 1, by simp, by omega, by rw [HA'.out, HNX2.out]; simp only [← cat_list], HO6⟩
     case measure => simp [intOf]; omega
  ·have t1 : decide ((i : Int) < (LO : Int)) = false := decide_eq_false (by omega)
   have hke : i = LO := by omega
   subst hke
   have hal0 := hal
   go_wp2_with fail
   clear z0 z1
   go_loopw [3, 7] (fun x y wr => ∃ m : Nat, y = .int .i64 (m : Int) ∧ m ≤ LF ∧ x = .string ⟨(ren (sepI [.sp 32] (its.take (i + m)))).toArray⟩ ∧ Hid (Only (fun _ => False) wz wr)) (fun _ y _ => LF - (intOf y).toNat)
   case atStart => exact ⟨0, rfl, by omega, by rw [Nat.add_zero], HO⟩
   case round =>
    clear HO hal hal0
    obtain ⟨m, rfl, hm, rfl, HO⟩ := hrel
    obtain ⟨z0, z1⟩ := HZ.out
    have z0 := keepc HO.out z0; have z1 := keepc HO.out z1
    have hal := Nat.le_trans (sep_le [.sp 32] its (i + m)) HLL.out
    by_cases hlt : m < LF
    ·have t4 : decide ((m : Int) < (LF : Int)) = true := decide_eq_true (by omega)
     have hm0 : (0 : Int) ≤ (m : Int) := by omega
     have hm1 : (m : Int) < (LF : Int) := by omega
     have hvi : m < dd.frags.length := by rw [HLF.out]; exact hlt
     have hii : i + m < its.length := by rw [HIL.out]; omega
     have hnx := sep_next [.sp 32] its (i + m) hii
     have hnl := Nat.le_trans (sep_le [.sp 32] its (i + m + 1)) HLL.out
     rw [HIF.out m hvi hii, fr_ren] at hnx
     rw [hnx] at hnl
     simp only [List.length_append, List.length_cons, List.length_nil] at hnl
     have hgf := HGF.out dd.frags[m] (List.getElem_mem hvi)
     obtain ⟨g, o, xs, rfl, -, q1, q2⟩ := HF.out m hvi
     obtain ⟨sv, rfl, hs⟩ := fr_cells q2
     have hss : (ren (setI dd.frags[m].sub)).length ≤ 1000000000000 := by omega
     have hnl1 : dd.frags[m].name.length ≤ 1000000000000 := by omega
     have hnl2 : dd.frags[m].on_.length ≤ 1000000000000 := by omega
     have hrec := fun (wx : World) (ox : Only (fun _ => False) w wx) => prS_any 24 dd.frags[m].sub hgf.2.2.2 G wx sv (CellAt.only ox (fun _ _ h => h) _ _ hs) hss
     obtain ⟨as_, cs_, rfl, -, -, -⟩ := rows_at hs
     obtain ⟨e0, e1, e2⟩ := cells3_of q1
     generalize ren (setI dd.frags[m].sub) = rs at *
     generalize dd.frags[m].name = dn at *
     generalize dd.frags[m].on_ = dno at *
     generalize dd.frags[m].sub.length = LX at *
     obtain ⟨Q, hQ⟩ : ∃ Q, ren (sepI [.sp 32] (its.take (i + m))) = Q := ⟨_, rfl⟩
     obtain ⟨Q', hQ'⟩ : ∃ Q, ren (sepI [.sp 32] (its.take (i + m + 1))) = Q := ⟨_, rfl⟩
     rw [hQ] at hal hnx ⊢
     rw [hQ'] at hnx
     have HQ' := Lib.hid hQ'; have HNX := Lib.hid hnx
     have oww : Only (fun _ => False) w wr := HOZ.out.trans HO.out
     have HX := Lib.hid (fun (wx : World) (ox : Only (fun _ => False) wr.drew wx) => have o := (Only.refl _ wr).drew.trans ox; have ow := oww.trans o; And.intro (keepc o z1) (And.intro (keepc ow e0) (And.intro (keepc ow e1) (keepc ow e2))))
     have HREC := Lib.hid (fun (wx : World) (ox : Only (fun _ => False) wr.drew wx) => hrec wx (oww.trans ((Only.refl _ wr).drew.trans ox)))
     clear hQ hQ' hnx hnl hrec q1 q2 hs e0 e1 e2 oww hgf
     obtain ⟨bb, hbb⟩ : ∃ bb : Bool, decide (0 < i + m) = bb := ⟨_, rfl⟩
     obtain ⟨q2_, hq2⟩ : ∃ q : List UInt8, Q ++ (if 0 < i + m then [32] else []) = q := ⟨_, rfl⟩
     have HBB := Lib.hid hbb; have HQ2 := Lib.hid hq2
     have hnx := HNX.out
     rw [spc_ren, hq2] at hnx
     have HNX2 := Lib.hid hnx
     have hq2l : q2_.length ≤ 1000000000000 := by
      have h1 := sep_le [.sp 32] its (i + m + 1)
      have h2 := HLL.out
      rw [HQ'.out, hnx] at h1
      simp only [List.length_append] at h1; omega
     clear hbb hq2 hnx HNX
     go_upto_region 26 with (fail)
     go_cut [104] from 97 to 103 (fun v w' => v = .bool bb ∧ wr = w')
     case first =>
      by_cases hz : 0 < m
      ·have t5 : decide ((m : Int) > 0) = true := decide_eq_true (by omega)
       go_wp2_with fail
       go_meet
       case rel => exact ⟨by rw [← HBB.out, decide_eq_true (by omega)], rfl⟩
      by_cases hz2 : 0 < i
      ·have t5 : decide ((m : Int) > 0) = false := decide_eq_false (by omega)
       have t6 : decide ((i : Int) > 0) = true := decide_eq_true (by omega)
       go_wp2_with fail
       go_meet
       case rel => exact ⟨by rw [← HBB.out, decide_eq_true (by omega)], rfl⟩
      ·have t5 : decide ((m : Int) > 0) = false := decide_eq_false (by omega)
       have t6 : decide ((i : Int) > 0) = false := decide_eq_false (by omega)
       go_wp2_with fail
       go_meet
       case rel => exact ⟨by rw [← HBB.out, decide_eq_false (by omega)], rfl⟩
     case rest =>
     obtain ⟨rfl, rfl⟩ := hcut
     go_upto_if 104 with (fail)
     go_cut [3] from 105 to 106 (fun v w' => v = .string ⟨q2_.toArray⟩ ∧ wr = w')
     case first =>
      cases bb with
      | true =>
       have hp := HQ2.out
       rw [if_pos (of_decide_eq_true HBB.out)] at hp
       have HH := Lib.hid hp; clear hp
       go_wp2_with fail
       go_meet
       case rel => exact ⟨by rw [← HH.out]; simp only [← cat_list], rfl⟩
      | false =>
       have hp := HQ2.out
       rw [if_neg (of_decide_eq_false HBB.out), List.append_nil] at hp
       have HH := Lib.hid hp; clear hp
       go_wp2_with fail
       go_meet
       case rel => exact ⟨by rw [← HH.out], rfl⟩
     case rest =>
     obtain ⟨rfl, rfl⟩ := hcut
     go_upto_region 28 with (fail)
     clear z0 z1
     refine wp_region_steps 25 (by kernel_rfl) rfl (by kernel_rfl) [some 107, some 108, some 109, some 110, some 111, some 112, some 113, some 114, some 115, some 116, some 117, some 118, some 119, some 120, some 121, some 122, some 123, some 124, some 125, some 126, some 127, some 128, some 129, some 130, some 131] rfl rfl (fun _ => False) [(fun v _ => v = (.string ⟨q2_.toArray⟩)), (fun v _ => v = (.pointer (some ⟨bD, 1, none⟩))), (fun v _ => v = (.slice (some ⟨g, o, none⟩) LF r)), (fun v _ => v = (.int .i64 (m : Int))), (fun v _ => v = (.pointer (some ⟨g, o + m * 3, none⟩))), (fun v _ => v = (.pointer (some ⟨g, o + m * 3, none⟩))), (fun v _ => v = (.string ⟨dn.toArray⟩)), (fun v _ => v = (.string (⟨#[102, 114, 97, 103, 109, 101, 110, 116, 32]⟩ ++ ⟨dn.toArray⟩))), (fun v _ => v = (.string (⟨#[102, 114, 97, 103, 109, 101, 110, 116, 32]⟩ ++ ⟨dn.toArray⟩ ++ ⟨#[32, 111, 110, 32]⟩))), (fun v _ => v = (.pointer (some ⟨bD, 1, none⟩))), (fun v _ => v = (.slice (some ⟨g, o, none⟩) LF r)), (fun v _ => v = (.int .i64 (m : Int))), (fun v _ => v = (.pointer (some ⟨g, o + m * 3, none⟩))), (fun v _ => v = (.pointer (some ⟨g, o + m * 3 + 1, none⟩))), (fun v _ => v = (.string ⟨dno.toArray⟩)), (fun v _ => v = (.string (⟨#[102, 114, 97, 103, 109, 101, 110, 116, 32]⟩ ++ ⟨dn.toArray⟩ ++ ⟨#[32, 111, 110, 32]⟩ ++ ⟨dno.toArray⟩))), (fun v _ => v = (.pointer (some ⟨bD, 1, none⟩))), (fun v _ => v = (.slice (some ⟨g, o, none⟩) LF r)), (fun v _ => v = (.int .i64 (m : Int))), (fun v _ => v = (.pointer (some ⟨g, o + m * 3, none⟩))), (fun v _ => v = (.pointer (some ⟨g, o + m * 3 + 2, none⟩))), (fun v _ => v = (.slice as_ LX cs_)), (fun v _ => v = (.string ⟨rs.toArray⟩)), (fun v _ => v = (.string (⟨#[102, 114, 97, 103, 109, 101, 110, 116, 32]⟩ ++ ⟨dn.toArray⟩ ++ ⟨#[32, 111, 110, 32]⟩ ++ ⟨dno.toArray⟩ ++ ⟨rs.toArray⟩))), (fun v _ => v = (.string (⟨q2_.toArray⟩ ++ (⟨#[102, 114, 97, 103, 109, 101, 110, 116, 32]⟩ ++ ⟨dn.toArray⟩ ++ ⟨#[32, 111, 110, 32]⟩ ++ ⟨dno.toArray⟩ ++ ⟨rs.toArray⟩))))] rfl ⟨?_, ?_, ?_, ?_, ?_, ?_, ?_, ?_, ?_, ?_, ?_, ?_, ?_, ?_, ?_, ?_, ?_, ?_, ?_, ?_, ?_, ?_, ?_, ?_, ?_, trivial⟩ _ rfl ⟨?_, ?_, ?_, ?_, ?_, ?_, ?_, ?_, ?_, ?_, ?_, ?_, ?_, ?_, ?_, ?_, ?_, ?_, ?_, ?_, ?_, ?_, ?_, ?_, ?_, trivial⟩ ?_
     ·exact Stable.is _ _
     ·exact Stable.is _ _
     ·exact Stable.is _ _
     ·exact Stable.is _ _
     ·exact Stable.is _ _
     ·exact Stable.is _ _
     ·exact Stable.is _ _
     ·exact Stable.is _ _
     ·exact Stable.is _ _
     ·exact Stable.is _ _
     ·exact Stable.is _ _
     ·exact Stable.is _ _
     ·exact Stable.is _ _
     ·exact Stable.is _ _
     ·exact Stable.is _ _
     ·exact Stable.is _ _
     ·exact Stable.is _ _
     ·exact Stable.is _ _
     ·exact Stable.is _ _
     ·exact Stable.is _ _
     ·exact Stable.is _ _
     ·exact Stable.is _ _
     ·exact Stable.is _ _
     ·exact Stable.is _ _
     ·exact Stable.is _ _
     ·intro x wx ox hN TT HTT
      clear hN
      unfold StepTo
      simp only [putAll, Act.put, List.setIfInBounds_toArray, List.set_cons_succ, List.set_cons_zero]
      go_wp2_with fail
      exact ⟨rfl, _, rfl, HTT.out _ _ (rfl) (Only.refl _ _)⟩
     ·intro x wx ox hN TT HTT
      clear hN
      unfold StepTo
      simp only [putAll, Act.put, List.setIfInBounds_toArray, List.set_cons_succ, List.set_cons_zero]
      go_wp2_with fail
      exact ⟨rfl, _, rfl, HTT.out _ _ (rfl) (Only.refl _ _)⟩
     ·intro x wx ox hN TT HTT
      have r108 : x 1 = (.pointer (some ⟨bD, 1, none⟩)) := hN.1 rfl
      clear hN
      unfold StepTo
      simp only [putAll, Act.put, List.setIfInBounds_toArray, List.set_cons_succ, List.set_cons_zero, r108]
      clear r108
      obtain ⟨mm1, mm2, mm3, mm4⟩ := HX.out wx ox
      go_wp2_with fail
      exact ⟨rfl, _, rfl, HTT.out _ _ (rfl) (Only.refl _ _)⟩
     ·intro x wx ox hN TT HTT
      clear hN
      unfold StepTo
      simp only [putAll, Act.put, List.setIfInBounds_toArray, List.set_cons_succ, List.set_cons_zero]
      go_wp2_with fail
      exact ⟨rfl, _, rfl, HTT.out _ _ (rfl) (Only.refl _ _)⟩
     ·intro x wx ox hN TT HTT
      have r109 : x 2 = (.slice (some ⟨g, o, none⟩) LF r) := hN.1 rfl
      have r110 : x 3 = (.int .i64 (m : Int)) := hN.2.1 rfl
      clear hN
      unfold StepTo
      simp only [putAll, Act.put, List.setIfInBounds_toArray, List.set_cons_succ, List.set_cons_zero, r109, r110]
      clear r109 r110
      go_wp2_with fail
      exact ⟨rfl, _, rfl, HTT.out _ _ (rfl) (Only.refl _ _)⟩
     ·intro x wx ox hN TT HTT
      have r111 : x 4 = (.pointer (some ⟨g, o + m * 3, none⟩)) := hN.1 rfl
      clear hN
      unfold StepTo
      simp only [putAll, Act.put, List.setIfInBounds_toArray, List.set_cons_succ, List.set_cons_zero, r111]
      clear r111
      go_wp2_with fail
      exact ⟨rfl, _, rfl, HTT.out _ _ (rfl) (Only.refl _ _)⟩
     ·intro x wx ox hN TT HTT
      have r112 : x 5 = (.pointer (some ⟨g, o + m * 3, none⟩)) := hN.1 rfl
      clear hN
      unfold StepTo
      simp only [putAll, Act.put, List.setIfInBounds_toArray, List.set_cons_succ, List.set_cons_zero, r112]
      clear r112
      obtain ⟨mm1, mm2, mm3, mm4⟩ := HX.out wx ox
      go_wp2_with fail
      exact ⟨rfl, _, rfl, HTT.out _ _ (rfl) (Only.refl _ _)⟩
     ·intro x wx ox hN TT HTT
      have r113 : x 6 = (.string ⟨dn.toArray⟩) := hN.1 rfl
      clear hN
      unfold StepTo
      simp only [putAll, Act.put, List.setIfInBounds_toArray, List.set_cons_succ, List.set_cons_zero, r113]
      clear r113
      go_wp2_with fail
      exact ⟨rfl, _, rfl, HTT.out _ _ (rfl) (Only.refl _ _)⟩
     ·intro x wx ox hN TT HTT
      have r114 : x 7 = (.string (⟨#[102, 114, 97, 103, 109, 101, 110, 116, 32]⟩ ++ ⟨dn.toArray⟩)) := hN.1 rfl
      clear hN
      unfold StepTo
      simp only [putAll, Act.put, List.setIfInBounds_toArray, List.set_cons_succ, List.set_cons_zero, r114]
      clear r114
      go_wp2_with fail
      exact ⟨rfl, _, rfl, HTT.out _ _ (rfl) (Only.refl _ _)⟩
     ·intro x wx ox hN TT HTT
      clear hN
      unfold StepTo
      simp only [putAll, Act.put, List.setIfInBounds_toArray, List.set_cons_succ, List.set_cons_zero]
      go_wp2_with fail
      exact ⟨rfl, _, rfl, HTT.out _ _ (rfl) (Only.refl _ _)⟩
     ·intro x wx ox hN TT HTT
      have r116 : x 9 = (.pointer (some ⟨bD, 1, none⟩)) := hN.1 rfl
      clear hN
      unfold StepTo
      simp only [putAll, Act.put, List.setIfInBounds_toArray, List.set_cons_succ, List.set_cons_zero, r116]
      clear r116
      obtain ⟨mm1, mm2, mm3, mm4⟩ := HX.out wx ox
      go_wp2_with fail
      exact ⟨rfl, _, rfl, HTT.out _ _ (rfl) (Only.refl _ _)⟩
     ·intro x wx ox hN TT HTT
      clear hN
      unfold StepTo
      simp only [putAll, Act.put, List.setIfInBounds_toArray, List.set_cons_succ, List.set_cons_zero]
      go_wp2_with fail
      exact ⟨rfl, _, rfl, HTT.out _ _ (rfl) (Only.refl _ _)⟩
     ·intro x wx ox hN TT HTT
      have r117 : x 10 = (.slice (some ⟨g, o, none⟩) LF r) := hN.1 rfl
      have r118 : x 11 = (.int .i64 (m : Int)) := hN.2.1 rfl
      clear hN
      unfold StepTo
      simp only [putAll, Act.put, List.setIfInBounds_toArray, List.set_cons_succ, List.set_cons_zero, r117, r118]
      clear r117 r118
      go_wp2_with fail
      exact ⟨rfl, _, rfl, HTT.out _ _ (rfl) (Only.refl _ _)⟩
     ·intro x wx ox hN TT HTT
      have r119 : x 12 = (.pointer (some ⟨g, o + m * 3, none⟩)) := hN.1 rfl
      clear hN
      unfold StepTo
      simp only [putAll, Act.put, List.setIfInBounds_toArray, List.set_cons_succ, List.set_cons_zero, r119]
      clear r119
      go_wp2_with fail
      exact ⟨rfl, _, rfl, HTT.out _ _ (rfl) (Only.refl _ _)⟩
     ·intro x wx ox hN TT HTT
      have r120 : x 13 = (.pointer (some ⟨g, o + m * 3 + 1, none⟩)) := hN.1 rfl
      clear hN
      unfold StepTo
      simp only [putAll, Act.put, List.setIfInBounds_toArray, List.set_cons_succ, List.set_cons_zero, r120]
      clear r120
      obtain ⟨mm1, mm2, mm3, mm4⟩ := HX.out wx ox
      go_wp2_with fail
      exact ⟨rfl, _, rfl, HTT.out _ _ (rfl) (Only.refl _ _)⟩
     ·intro x wx ox hN TT HTT
      have r115 : x 8 = (.string (⟨#[102, 114, 97, 103, 109, 101, 110, 116, 32]⟩ ++ ⟨dn.toArray⟩ ++ ⟨#[32, 111, 110, 32]⟩)) := hN.1 rfl
      have r121 : x 14 = (.string ⟨dno.toArray⟩) := hN.2.1 rfl
      clear hN
      unfold StepTo
      simp only [putAll, Act.put, List.setIfInBounds_toArray, List.set_cons_succ, List.set_cons_zero, r115, r121]
      clear r115 r121
      go_wp2_with fail
      exact ⟨rfl, _, rfl, HTT.out _ _ (rfl) (Only.refl _ _)⟩
     ·intro x wx ox hN TT HTT
      clear hN
      unfold StepTo
      simp only [putAll, Act.put, List.setIfInBounds_toArray, List.set_cons_succ, List.set_cons_zero]
      go_wp2_with fail
      exact ⟨rfl, _, rfl, HTT.out _ _ (rfl) (Only.refl _ _)⟩
     ·intro x wx ox hN TT HTT
      have r123 : x 16 = (.pointer (some ⟨bD, 1, none⟩)) := hN.1 rfl
      clear hN
      unfold StepTo
      simp only [putAll, Act.put, List.setIfInBounds_toArray, List.set_cons_succ, List.set_cons_zero, r123]
      clear r123
      obtain ⟨mm1, mm2, mm3, mm4⟩ := HX.out wx ox
      go_wp2_with fail
      exact ⟨rfl, _, rfl, HTT.out _ _ (rfl) (Only.refl _ _)⟩
     ·intro x wx ox hN TT HTT
      clear hN
      unfold StepTo
      simp only [putAll, Act.put, List.setIfInBounds_toArray, List.set_cons_succ, List.set_cons_zero]
      go_wp2_with fail
      exact ⟨rfl, _, rfl, HTT.out _ _ (rfl) (Only.refl _ _)⟩
     ·intro x wx ox hN TT HTT
      have r124 : x 17 = (.slice (some ⟨g, o, none⟩) LF r) := hN.1 rfl
      have r125 : x 18 = (.int .i64 (m : Int)) := hN.2.1 rfl
      clear hN
      unfold StepTo
      simp only [putAll, Act.put, List.setIfInBounds_toArray, List.set_cons_succ, List.set_cons_zero, r124, r125]
      clear r124 r125
      go_wp2_with fail
      exact ⟨rfl, _, rfl, HTT.out _ _ (rfl) (Only.refl _ _)⟩
     ·intro x wx ox hN TT HTT
      have r126 : x 19 = (.pointer (some ⟨g, o + m * 3, none⟩)) := hN.1 rfl
      clear hN
      unfold StepTo
      simp only [putAll, Act.put, List.setIfInBounds_toArray, List.set_cons_succ, List.set_cons_zero, r126]
      clear r126
      go_wp2_with fail
      exact ⟨rfl, _, rfl, HTT.out _ _ (rfl) (Only.refl _ _)⟩
     ·intro x wx ox hN TT HTT
      have r127 : x 20 = (.pointer (some ⟨g, o + m * 3 + 2, none⟩)) := hN.1 rfl
      clear hN
      unfold StepTo
      simp only [putAll, Act.put, List.setIfInBounds_toArray, List.set_cons_succ, List.set_cons_zero, r127]
      clear r127
      obtain ⟨mm1, mm2, mm3, mm4⟩ := HX.out wx ox
      go_wp2_with fail
      exact ⟨rfl, _, rfl, HTT.out _ _ (rfl) (Only.refl _ _)⟩
     ·intro x wx ox hN TT HTT
      have r128 : x 21 = (.slice as_ LX cs_) := hN.1 rfl
      clear hN
      unfold StepTo
      simp only [putAll, Act.put, List.setIfInBounds_toArray, List.set_cons_succ, List.set_cons_zero, r128]
      clear r128
      have ht := HREC.out wx ox
      have HT := Lib.hid ht; clear ht
      go_wp2_with fail
      refine HT.out.mono ?_
      rintro e w6 ⟨rfl, o6⟩
      have O6 := Lib.hid o6; clear o6
      go_wp2_with fail
      exact ⟨rfl, _, rfl, HTT.out _ _ (rfl) (O6.out)⟩
     ·intro x wx ox hN TT HTT
      have r122 : x 15 = (.string (⟨#[102, 114, 97, 103, 109, 101, 110, 116, 32]⟩ ++ ⟨dn.toArray⟩ ++ ⟨#[32, 111, 110, 32]⟩ ++ ⟨dno.toArray⟩)) := hN.1 rfl
      have r129 : x 22 = (.string ⟨rs.toArray⟩) := hN.2.1 rfl
      clear hN
      unfold StepTo
      simp only [putAll, Act.put, List.setIfInBounds_toArray, List.set_cons_succ, List.set_cons_zero, r122, r129]
      clear r122 r129
      go_wp2_with fail
      exact ⟨rfl, _, rfl, HTT.out _ _ (rfl) (Only.refl _ _)⟩
     ·intro x wx ox hN TT HTT
      have r107 : x 0 = (.string ⟨q2_.toArray⟩) := hN.1 rfl
      have r130 : x 23 = (.string (⟨#[102, 114, 97, 103, 109, 101, 110, 116, 32]⟩ ++ ⟨dn.toArray⟩ ++ ⟨#[32, 111, 110, 32]⟩ ++ ⟨dno.toArray⟩ ++ ⟨rs.toArray⟩)) := hN.2.1 rfl
      clear hN
      unfold StepTo
      simp only [putAll, Act.put, List.setIfInBounds_toArray, List.set_cons_succ, List.set_cons_zero, r107, r130]
      clear r107 r130
      go_wp2_with fail
      exact ⟨rfl, _, rfl, HTT.out _ _ (rfl) (Only.refl _ _)⟩
     intro xz wxz oxz hN
     have r107 : xz 0 = (.string ⟨q2_.toArray⟩) := hN.1
     have r108 : xz 1 = (.pointer (some ⟨bD, 1, none⟩)) := hN.2.1
     have r109 : xz 2 = (.slice (some ⟨g, o, none⟩) LF r) := hN.2.2.1
     have r110 : xz 3 = (.int .i64 (m : Int)) := hN.2.2.2.1
     have r111 : xz 4 = (.pointer (some ⟨g, o + m * 3, none⟩)) := hN.2.2.2.2.1
     have r112 : xz 5 = (.pointer (some ⟨g, o + m * 3, none⟩)) := hN.2.2.2.2.2.1
     have r113 : xz 6 = (.string ⟨dn.toArray⟩) := hN.2.2.2.2.2.2.1
     have r114 : xz 7 = (.string (⟨#[102, 114, 97, 103, 109, 101, 110, 116, 32]⟩ ++ ⟨dn.toArray⟩)) := hN.2.2.2.2.2.2.2.1
     have r115 : xz 8 = (.string (⟨#[102, 114, 97, 103, 109, 101, 110, 116, 32]⟩ ++ ⟨dn.toArray⟩ ++ ⟨#[32, 111, 110, 32]⟩)) := hN.2.2.2.2.2.2.2.2.1
     have r116 : xz 9 = (.pointer (some ⟨bD, 1, none⟩)) := hN.2.2.2.2.2.2.2.2.2.1
     have r117 : xz 10 = (.slice (some ⟨g, o, none⟩) LF r) := hN.2.2.2.2.2.2.2.2.2.2.1
     have r118 : xz 11 = (.int .i64 (m : Int)) := hN.2.2.2.2.2.2.2.2.2.2.2.1
     have r119 : xz 12 = (.pointer (some ⟨g, o + m * 3, none⟩)) := hN.2.2.2.2.2.2.2.2.2.2.2.2.1
     have r120 : xz 13 = (.pointer (some ⟨g, o + m * 3 + 1, none⟩)) := hN.2.2.2.2.2.2.2.2.2.2.2.2.2.1
     have r121 : xz 14 = (.string ⟨dno.toArray⟩) := hN.2.2.2.2.2.2.2.2.2.2.2.2.2.2.1
     have r122 : xz 15 = (.string (⟨#[102, 114, 97, 103, 109, 101, 110, 116, 32]⟩ ++ ⟨dn.toArray⟩ ++ ⟨#[32, 111, 110, 32]⟩ ++ ⟨dno.toArray⟩)) := hN.2.2.2.2.2.2.2.2.2.2.2.2.2.2.2.1
     have r123 : xz 16 = (.pointer (some ⟨bD, 1, none⟩)) := hN.2.2.2.2.2.2.2.2.2.2.2.2.2.2.2.2.1
     have r124 : xz 17 = (.slice (some ⟨g, o, none⟩) LF r) := hN.2.2.2.2.2.2.2.2.2.2.2.2.2.2.2.2.2.1
     have r125 : xz 18 = (.int .i64 (m : Int)) := hN.2.2.2.2.2.2.2.2.2.2.2.2.2.2.2.2.2.2.1
     have r126 : xz 19 = (.pointer (some ⟨g, o + m * 3, none⟩)) := hN.2.2.2.2.2.2.2.2.2.2.2.2.2.2.2.2.2.2.2.1
     have r127 : xz 20 = (.pointer (some ⟨g, o + m * 3 + 2, none⟩)) := hN.2.2.2.2.2.2.2.2.2.2.2.2.2.2.2.2.2.2.2.2.1
     have r128 : xz 21 = (.slice as_ LX cs_) := hN.2.2.2.2.2.2.2.2.2.2.2.2.2.2.2.2.2.2.2.2.2.1
     have r129 : xz 22 = (.string ⟨rs.toArray⟩) := hN.2.2.2.2.2.2.2.2.2.2.2.2.2.2.2.2.2.2.2.2.2.2.1
     have r130 : xz 23 = (.string (⟨#[102, 114, 97, 103, 109, 101, 110, 116, 32]⟩ ++ ⟨dn.toArray⟩ ++ ⟨#[32, 111, 110, 32]⟩ ++ ⟨dno.toArray⟩ ++ ⟨rs.toArray⟩)) := hN.2.2.2.2.2.2.2.2.2.2.2.2.2.2.2.2.2.2.2.2.2.2.2.1
     have r131 : xz 24 = (.string (⟨q2_.toArray⟩ ++ (⟨#[102, 114, 97, 103, 109, 101, 110, 116, 32]⟩ ++ ⟨dn.toArray⟩ ++ ⟨#[32, 111, 110, 32]⟩ ++ ⟨dno.toArray⟩ ++ ⟨rs.toArray⟩))) := hN.2.2.2.2.2.2.2.2.2.2.2.2.2.2.2.2.2.2.2.2.2.2.2.2.1
     clear hN
     simp only [putAll, Act.put, List.setIfInBounds_toArray, List.set_cons_succ, List.set_cons_zero, r107, r108, r109, r110, r111, r112, r113, r114, r115, r116, r117, r118, r119, r120, r121, r122, r123, r124, r125, r126, r127, r128, r129, r130, r131]
     clear r107 r108 r109 r110 r111 r112 r113 r114 r115 r116 r117 r118 r119 r120 r121 r122 r123 r124 r125 r126 r127 r128 r129 r130 r131
     have OY := Lib.hid (HO.out.trans ((Only.refl _ wr).drew.trans oxz)); clear oxz
     go_wp2_with fail
     go_roundw
     case rel => exact ⟨m + 1, by simp, by omega, by rw [← Nat.add_assoc, HQ'.out, HNX2.out]; simp only [← cat_list], OY⟩
     case measure => simp [intOf]; omega
    ·have t4 : decide ((m : Int) < (LF : Int)) = false := decide_eq_false (by omega)
     have hke : m = LF := by omega
     subst hke
     have htk : its.take (i + m) = its := List.take_of_length_le (by rw [HIL.out]; omega)
     rw [htk, HR.out]
     clear htk hal
     go_wp2_with fail
     clear z0 z1
     go_ret
     exact ⟨rfl, HOZ.out.trans HO.out⟩
end Go.Proofs.YtgephneppgcnlaaDoor
