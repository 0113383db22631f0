/- . -/
import Derived.Test.YtnkpoddbbdmipaaGreatDoorTDcPry
import Derived.Test.YtnkpoddbbdmipaaGreatDoorTDcSmv
import Derived.Test.YtnkpoddbbdmipaaGreatDoorTDcSdP
import Derived.Test.YtnkpoddbbdmipaaGreatDoorTDcSmr
import Derived.Test.YtnkpoddbbdmipaaGreatDoorTDcOwD
namespace Go.Proofs.YtnkpoddbbdmipaaGreatDoor
open Go Go.RowKit
open Go.Lib (hid)
set_option linter.unusedVariables false
set_option linter.unusedSimpArgs false
def inpB (nm : List UInt8) (t : TR) (has : Bool) (v : VT) : List UInt8 := nm ++ [58, 32] ++ ren (typI t) ++ (if has then [32, 61, 32] ++ ren (valI v) else [])
theorem inp_ren (n : List It) (t : TR) (has : Bool) (v : VT) : ren (inpI n t has v) = inpB (ren n) t has v := by
 unfold inpI inpB; rw [ren_app, ren_cons, ren_cons, ren_app]
 cases has
 ·simp [ren, It.src, sgI]
 ·rw [if_pos rfl, ren_cons, ren_cons, ren_cons]; simp [It.src, sgI]
set_option maxRecDepth 100000 in
set_option maxHeartbeats 8000000 in
theorem prI_any (nm : List UInt8) (t : TR) (has : Bool) (v : VT) (hw : has = true → WellV v) (G : Nat → Prop) (w : World) (cs ds : List Value) (h : CellsAt w G (trC t) cs) (h' : CellsAt w G (valC v) ds) (hl : (inpB nm t has v).length ≤ 1000000000000) :
  Calls Tryz.prog 49 #[.string ⟨nm.toArray⟩, .agg cs.toArray, .bool has, .agg ds.toArray] w (fun e w' => e = .returned (.string ⟨(inpB nm t has v).toArray⟩) ∧ Only (fun _ => False) w w') := by
 have hl0 := hl; unfold inpB at hl0; simp only [List.length_append] at hl0; have hlt : (ren (typI t)).length ≤ 1000000000000 := by omega
 have hln : nm.length ≤ 1000000000000 := by omega
 have hta := fun (wx : World) (ox : Only (fun _ => False) w wx) => prT_any t G wx cs (CellsAt.only ox (fun _ _ h => h) _ _ h) hlt
 have hva := fun (wx : World) (ox : Only (fun _ => False) w wx) (hh : has = true) => prV_any v (hw hh) G wx ds (CellsAt.only ox (fun _ _ h => h) _ _ h') (by rw [if_pos hh, List.length_append] at hl0; omega)
 have hvl : has = true → (ren (valI v)).length ≤ 1000000000000 := fun hh => by rw [if_pos hh, List.length_append] at hl0; omega
 obtain ⟨s1, a1, l1, c1, b1, rfl⟩ := trC_form2 h; obtain ⟨k, n, s2, a2, l2, e2, a3, l3, e3, rfl⟩ := valC_form2 h'; obtain ⟨R, hR⟩ := eX (inpB nm t has v); rw [hR]; obtain ⟨wb, hwb⟩ := eX ((w.alloc (.cells #[.string ⟨s1.toArray⟩, .slice a1 l1 c1, .bool b1] 41)).alloc (.cells #[.int .u8 (k : Int), .int .i64 n, .string ⟨s2.toArray⟩, .slice a2 l2 e2, .slice a3 l3 e3] 35)); have ob : Only (fun _ => False) w wb := by rw [← hwb]; exact ((Only.refl _ w).alloc _).alloc _
 obtain ⟨bA, hbA⟩ := eX (w.heap.size); obtain ⟨bB, hbB⟩ := eX (bA + 1); have hx1 : wb.heap[bA]? = some (.cells #[.string ⟨s1.toArray⟩, .slice a1 l1 c1, .bool b1] 41 (0, 0)) := by rw [← hwb, ← hbA]; exact heap_old (heap_new w _) _
 have hx2 : wb.heap[bB]? = some (.cells #[.int .u8 (k : Int), .int .i64 n, .string ⟨s2.toArray⟩, .slice a2 l2 e2, .slice a3 l3 e3] 35 (0, 0)) := by
  rw [← hwb, ← hbB, ← hbA]; have := heap_new (w.alloc (.cells #[.string ⟨s1.toArray⟩, .slice a1 l1 c1, .bool b1] 41)) (.cells #[.int .u8 (k : Int), .int .i64 n, .string ⟨s2.toArray⟩, .slice a2 l2 e2, .slice a3 l3 e3] 35); rw [World.size_alloc] at this; exact this
 obtain ⟨c0, c1', c2, -⟩ := boxN3 hx1; obtain ⟨d0, d1, d2, d3, d4, -⟩ := boxN5 hx2; have HD := hid (And.intro d0 (And.intro d1 (And.intro d2 (And.intro d3 d4)))); have HOB := hid ob; have HWB := hid hwb; have HBA := hid hbA; have HBB := hid hbB; have HT := hid (hta wb ob); have HV := hid (fun (wx : World) (ox : Only (fun _ => False) wb wx) => hva wx (HOB.out.trans ox)); clear hx1 hx2 ob hwb hbA hbB h h' hta hva hw hl hl0; unfold inpB at hR
 generalize ren (typI t) = rt at *
 cases has with
 | false =>
  rw [if_neg (by decide), List.append_nil] at hR; have HR := hid hR; clear hR
  go_enter Tryz.func49, Tryz.ntmps49
  go_upto_region 1 with (fail)
  rw [HWB.out, HBA.out, HBB.out]
  go_wp2_with fail
  refine HT.out.mono ?_
  rintro e w6 ⟨rfl, o6⟩; have HO6 := hid (HOB.out.trans o6); clear c0 c1' c2 d0 d1 d2 d3 d4 o6
  go_wp2_with fail
  go_ret
  rw [← HR.out]; simp only [← cat_list]; exact ⟨rfl, HO6.out⟩
 | true =>
  rw [if_pos rfl] at hR; have hl2 := hvl rfl; clear hvl; have HV' := hid (fun wx ox => HV.out wx ox rfl); have hR2 := hR
  generalize ren (valI v) = rv at *
  have HR := hid hR; clear hR hR2 HV
  go_enter Tryz.func49, Tryz.ntmps49
  go_upto_region 1 with (fail)
  rw [HWB.out, HBA.out, HBB.out]
  go_wp2_with fail
  refine HT.out.mono ?_
  rintro e w6 ⟨rfl, o6⟩; have HV6 := hid (HV'.out w6 o6); obtain ⟨z0, z1, z2, z3, z4⟩ := HD.out; have z0 := keepc o6 z0; have z1 := keepc o6 z1; have z2 := keepc o6 z2; have z3 := keepc o6 z3; have z4 := keepc o6 z4; have HO6 := hid (HOB.out.trans o6); clear c0 c1' c2 d0 d1 d2 d3 d4 o6 HV'
  go_wp2_with fail
  refine HV6.out.mono ?_
  rintro e w7 ⟨rfl, o7⟩; have HO7 := hid (HO6.out.trans o7); clear z0 z1 z2 z3 z4 o7
  go_wp2_with fail
  go_ret
  rw [← HR.out]; simp only [← cat_list]; exact ⟨rfl, HO7.out⟩
def parB (name : List UInt8) (l : List (List It)) (i : Nat) : List UInt8 := name ++ (if i = 0 then [] else [40] ++ ren (sepI gapI (l.take i)))
theorem parB_next (name : List UInt8) (l : List (List It)) (i : Nat) (h : i < l.length) : parB name l (i + 1) = parB name l i ++ (if i = 0 then [40] else [44, 32]) ++ ren l[i] := by
 unfold parB; rw [if_neg (by omega), sep_next gapI l i h]
 by_cases h0 : i = 0
 ·subst h0; rw [sep_zero]; simp
 ·rw [if_pos (by omega), if_neg h0, if_neg h0, gap_ren]; simp
theorem parB_end (name : List UInt8) (l : List (List It)) : name ++ ren (parI l) = parB name l l.length ++ (if 0 < l.length then [41] else []) := by
 unfold parB parI
 cases l with
 | nil => simp [ren]
 | cons a l =>
  rw [if_neg (by simp), if_neg (by simp), if_pos (by simp), List.take_length, ren_cons, ren_app]; simp [ren, It.src, sgI]
theorem parB_le (name : List UInt8) (l : List (List It)) (i : Nat) (hi : i ≤ l.length) : (parB name l i).length ≤ (name ++ ren (parI l)).length := by
 rw [parB_end]; unfold parB
 by_cases h0 : i = 0
 ·rw [if_pos h0]; simp only [List.length_append, List.length_nil]; omega
 ·rw [if_neg h0]
  cases l with
  | nil => simp at hi; omega
  | cons a l =>
   have := sep_le gapI (a :: l) i; rw [if_neg (by simp), List.take_length]; simp only [List.length_append, List.length_cons, List.length_nil] at this ⊢; omega
theorem arg_ren (a : AR) : ren (argI a) = a.name ++ [58, 32] ++ ren (valI a.v) := by
 unfold argI pairI; rw [ren_cons, ren_cons, ren_cons]; simp [It.src, nmI, sgI]
set_option maxRecDepth 100000 in
set_option maxHeartbeats 16000000 in
theorem prA_any (gs : List AR) (hw : ∀ a ∈ gs, WellV a.v) (G : Nat → Prop) (w : World) (v : Value) (h : CellAt w G (.row 6 (gs.map argC)) v) (hl : (ren (argsI gs)).length ≤ 1000000000000) :
  Calls Tryz.prog 61 #[v] w (fun e w' => e = .returned (.string ⟨(ren (argsI gs)).toArray⟩) ∧ Only (fun _ => False) w w') := by
 obtain ⟨a, c, rfl, k1, k2, k3⟩ := rows_at h; obtain ⟨L, hL⟩ := eX (gs.length); obtain ⟨its, hits⟩ := eX (gs.map argI); have hil : its.length = L := by rw [← hits, List.length_map, hL]
 have hig : ∀ i (h : i < gs.length) (h' : i < its.length), ren its[i] = gs[i].name ++ [58, 32] ++ ren (valI gs[i].v) := fun i h h' => by subst hits; rw [List.getElem_map, arg_ren]
 have hend := parB_end [] its; have he : ren (argsI gs) = [] ++ ren (parI its) := by unfold argsI; rw [hits]; rfl
 obtain ⟨R, hR⟩ := eX (ren (argsI gs)); rw [hR] at hl he ⊢; rw [hL] at k1 ⊢; have hpl : ([] ++ ren (parI its)).length ≤ 1000000000000 := by rw [← he]; exact hl
 rw [← he] at hend; have HL := hid hL; have HK := hid k3; have HIG := hid hig; have HIL := hid hil; have HPL := hid hpl; have HEND := hid hend; have HW := hid hw; clear h hw hL hits hil hig hend he hR hpl k3
 go_enter Tryz.func61, Tryz.ntmps61
 go_wp2_with fail
 go_loopw [3, 4] (fun x y wr => ∃ i : Nat, y = .int .i64 (i : Int) ∧ i ≤ L ∧ x = .string ⟨(parB [] its i).toArray⟩ ∧ Hid (Only (fun _ => False) w wr)) (fun _ y _ => L - (intOf y).toNat)
 case atStart => exact ⟨0, rfl, by omega, by unfold parB; rw [if_pos rfl]; rfl, hid oR⟩
 case round =>
  obtain ⟨i, rfl, hi, rfl, HO⟩ := hrel; have hal := Nat.le_trans (parB_le [] its i (by rw [HIL.out]; omega)) HPL.out
  by_cases hlt : i < L
  ·have t1 : decide ((i : Int) < (L : Int)) = true := decide_eq_true (by omega); have hi0 : (0 : Int) ≤ (i : Int) := by omega
   have hi1 : (i : Int) < (L : Int) := by omega
   have hvi : i < gs.length := by rw [HL.out]; exact hlt
   have hii : i < its.length := by rw [HIL.out]; exact hlt
   have hnx := parB_next [] its i hii; have hnl := Nat.le_trans (parB_le [] its (i + 1) (by rw [HIL.out]; omega)) HPL.out; rw [HIG.out i hvi hii] at hnx; rw [hnx] at hnl; simp only [List.length_append] at hnl; have hwv := HW.out gs[i] (List.getElem_mem hvi); obtain ⟨g, o, xs, rfl, -, q1, q2⟩ := HK.out i hvi; obtain ⟨us, rfl, hu⟩ := arg_cells q2; have hrl : (ren (valI gs[i].v)).length ≤ 1000000000000 := by omega
   have hnml : gs[i].name.length ≤ 1000000000000 := by omega
   have hrec := fun (wx : World) (ox : Only (fun _ => False) w wx) => prV_any _ hwv G wx us (CellsAt.only ox (fun _ _ h => h) _ _ hu) hrl
   obtain ⟨vk, vn, vs, va, vl, vc, va2, vl2, vc2, rfl⟩ := valC_form2 hu; obtain ⟨e0, e1, e2, e3, e4, e5⟩ := cells6_of q1; obtain ⟨acc, hacc⟩ := eX (parB [] its i); obtain ⟨acc', hacc'⟩ : ∃ a, parB [] its (i + 1) = a := ⟨_, rfl⟩; have HA' := hid hacc'; rw [hacc] at hal hnx hnl ⊢; rw [hacc'] at hnx
   generalize gs[i].name = nm at *
   generalize ren (valI gs[i].v) = rv at *
   have HNX := hid hnx; have HX := hid (fun (wx : World) (ox : Only (fun _ => False) wr.drew wx) => have ow := HO.out.trans ((Only.refl _ wr).drew.trans ox); And.intro (keepc ow e0) (And.intro (keepc ow e1) (And.intro (keepc ow e2) (And.intro (keepc ow e3) (And.intro (keepc ow e4) (keepc ow e5)))))); have HREC := hid (fun (wx : World) (ox : Only (fun _ => False) wr.drew wx) => hrec wx (HO.out.trans ((Only.refl _ wr).drew.trans ox))); clear hacc hacc' hnx hnl hrec q1 q2 hu e0 e1 e2 e3 e4 e5 hwv
   by_cases hz : i = 0
   ·have t2 : ((i : Int) == 0) = true := by simp; omega
    rw [if_pos hz] at HNX; clear hz
    go_upto_region 8 with (fail)
    refine wp_region_steps 15 (by kernel_rfl) rfl (by kernel_rfl) [some 17, some 18, some 19, some 20, some 21, some 22, some 23, some 24, some 25, some 26, some 27, some 28, some 29, some 30, some 31] rfl rfl (fun _ => False) [(fun v _ => v = (.string (⟨acc.toArray⟩ ++ ⟨#[40]⟩))), (fun v _ => v = (.slice (some ⟨g, o, none⟩) L c)), (fun v _ => v = (.int .i64 (i : Int))), (fun v _ => v = (.pointer (some ⟨g, o + i * 6, none⟩))), (fun v _ => v = (.pointer (some ⟨g, o + i * 6, none⟩))), (fun v _ => v = (.string ⟨nm.toArray⟩)), (fun v _ => v = (.string (⟨nm.toArray⟩ ++ ⟨#[58, 32]⟩))), (fun v _ => v = (.slice (some ⟨g, o, none⟩) L c)), (fun v _ => v = (.int .i64 (i : Int))), (fun v _ => v = (.pointer (some ⟨g, o + i * 6, none⟩))), (fun v _ => v = (.pointer (some ⟨g, o + i * 6 + 1, none⟩))), (fun v _ => v = (.agg #[.int .u8 (vk : Int), .int .i64 vn, .string ⟨vs.toArray⟩, .slice va vl vc, .slice va2 vl2 vc2])), (fun v _ => v = (.string ⟨rv.toArray⟩)), (fun v _ => v = (.string (⟨nm.toArray⟩ ++ ⟨#[58, 32]⟩ ++ ⟨rv.toArray⟩))), (fun v _ => v = (.string (⟨acc.toArray⟩ ++ ⟨#[40]⟩ ++ (⟨nm.toArray⟩ ++ ⟨#[58, 32]⟩ ++ ⟨rv.toArray⟩))))] rfl ⟨?_, ?_, ?_, ?_, ?_, ?_, ?_, ?_, ?_, ?_, ?_, ?_, ?_, ?_, ?_, trivial⟩ _ rfl ⟨?_, ?_, ?_, ?_, ?_, ?_, ?_, ?_, ?_, ?_, ?_, ?_, ?_, ?_, ?_, trivial⟩ ?_
    iterate 15 exact Stable.is _ _
    ·intro x wx ox hN TT HTT; unfold StepTo; simp only [putAll, Act.put, zA, zB, zC]; clear hN
     go_wp2_with fail
     exact ⟨rfl, _, rfl, HTT.out _ _ rfl oR⟩
    ·intro x wx ox hN TT HTT; unfold StepTo; simp only [putAll, Act.put, zA, zB, zC]; clear hN
     go_wp2_with fail
     exact ⟨rfl, _, rfl, HTT.out _ _ rfl oR⟩
    ·intro x wx ox hN TT HTT; unfold StepTo; simp only [putAll, Act.put, zA, zB, zC]; clear hN
     go_wp2_with fail
     exact ⟨rfl, _, rfl, HTT.out _ _ rfl oR⟩
    ·intro x wx ox hN TT HTT; unfold StepTo; simp only [putAll, Act.put, zA, zB, zC, eI (hN.1 rfl), eI (hN.2.1 rfl)]; clear hN
     go_wp2_with fail
     exact ⟨rfl, _, rfl, HTT.out _ _ rfl oR⟩
    ·intro x wx ox hN TT HTT; unfold StepTo; simp only [putAll, Act.put, zA, zB, zC, eI (hN.1 rfl)]; clear hN
     go_wp2_with fail
     exact ⟨rfl, _, rfl, HTT.out _ _ rfl oR⟩
    ·intro x wx ox hN TT HTT; unfold StepTo; simp only [putAll, Act.put, zA, zB, zC, eI (hN.1 rfl)]; clear hN; obtain ⟨m1, m2, m3, m4, m5, m6⟩ := HX.out wx ox
     go_wp2_with fail
     exact ⟨rfl, _, rfl, HTT.out _ _ rfl oR⟩
    ·intro x wx ox hN TT HTT; unfold StepTo; simp only [putAll, Act.put, zA, zB, zC, eI (hN.1 rfl)]; clear hN
     go_wp2_with fail
     exact ⟨rfl, _, rfl, HTT.out _ _ rfl oR⟩
    ·intro x wx ox hN TT HTT; unfold StepTo; simp only [putAll, Act.put, zA, zB, zC]; clear hN
     go_wp2_with fail
     exact ⟨rfl, _, rfl, HTT.out _ _ rfl oR⟩
    ·intro x wx ox hN TT HTT; unfold StepTo; simp only [putAll, Act.put, zA, zB, zC]; clear hN
     go_wp2_with fail
     exact ⟨rfl, _, rfl, HTT.out _ _ rfl oR⟩
    ·intro x wx ox hN TT HTT; unfold StepTo; simp only [putAll, Act.put, zA, zB, zC, eI (hN.1 rfl), eI (hN.2.1 rfl)]; clear hN
     go_wp2_with fail
     exact ⟨rfl, _, rfl, HTT.out _ _ rfl oR⟩
    ·intro x wx ox hN TT HTT; unfold StepTo; simp only [putAll, Act.put, zA, zB, zC, eI (hN.1 rfl)]; clear hN
     go_wp2_with fail
     exact ⟨rfl, _, rfl, HTT.out _ _ rfl oR⟩
    ·intro x wx ox hN TT HTT; unfold StepTo; simp only [putAll, Act.put, zA, zB, zC, eI (hN.1 rfl)]; clear hN; obtain ⟨m1, m2, m3, m4, m5, m6⟩ := HX.out wx ox
     go_wp2_with fail
     exact ⟨rfl, _, rfl, HTT.out _ _ rfl oR⟩
    ·intro x wx ox hN TT HTT; unfold StepTo; simp only [putAll, Act.put, zA, zB, zC, eI (hN.1 rfl)]; clear hN; have ht := HREC.out wx ox; have HT := hid ht; clear ht
     go_wp2_with fail
     refine HT.out.mono ?_
     rintro e w6 ⟨rfl, o6⟩; have O6 := hid o6; clear o6
     go_wp2_with fail
     exact ⟨rfl, _, rfl, HTT.out _ _ rfl (O6.out)⟩
    ·intro x wx ox hN TT HTT; unfold StepTo; simp only [putAll, Act.put, zA, zB, zC, eI (hN.1 rfl), eI (hN.2.1 rfl)]; clear hN
     go_wp2_with fail
     exact ⟨rfl, _, rfl, HTT.out _ _ rfl oR⟩
    ·intro x wx ox hN TT HTT; unfold StepTo; simp only [putAll, Act.put, zA, zB, zC, eI (hN.1 rfl), eI (hN.2.1 rfl)]; clear hN
     go_wp2_with fail
     exact ⟨rfl, _, rfl, HTT.out _ _ rfl oR⟩
    intro xz wxz oxz hN; simp only [putAll, Act.put, zA, zB, zC, eI hN.1, eI hN.2.1, eI hN.2.2.1, eI hN.2.2.2.1, eI hN.2.2.2.2.1, eI hN.2.2.2.2.2.1, eI hN.2.2.2.2.2.2.1, eI hN.2.2.2.2.2.2.2.1, eI hN.2.2.2.2.2.2.2.2.1, eI hN.2.2.2.2.2.2.2.2.2.1, eI hN.2.2.2.2.2.2.2.2.2.2.1, eI hN.2.2.2.2.2.2.2.2.2.2.2.1, eI hN.2.2.2.2.2.2.2.2.2.2.2.2.1, eI hN.2.2.2.2.2.2.2.2.2.2.2.2.2.1, eI hN.2.2.2.2.2.2.2.2.2.2.2.2.2.2.1]; clear hN; have OZ := hid (HO.out.trans ((Only.refl _ wr).drew.trans oxz)); clear oxz
    go_wp2_with fail
    go_roundw
    case rel => exact ⟨i + 1, by simp, by omega, by rw [HA'.out, HNX.out]; simp only [← cat_list], OZ⟩
    case measure => simp [intOf]; omega
   ·have t2 : ((i : Int) == 0) = false := by simp; omega
    rw [if_neg hz] at HNX; clear hz
    go_upto_region 8 with (fail)
    refine wp_region_steps 15 (by kernel_rfl) rfl (by kernel_rfl) [some 17, some 18, some 19, some 20, some 21, some 22, some 23, some 24, some 25, some 26, some 27, some 28, some 29, some 30, some 31] rfl rfl (fun _ => False) [(fun v _ => v = (.string (⟨acc.toArray⟩ ++ ⟨#[44, 32]⟩))), (fun v _ => v = (.slice (some ⟨g, o, none⟩) L c)), (fun v _ => v = (.int .i64 (i : Int))), (fun v _ => v = (.pointer (some ⟨g, o + i * 6, none⟩))), (fun v _ => v = (.pointer (some ⟨g, o + i * 6, none⟩))), (fun v _ => v = (.string ⟨nm.toArray⟩)), (fun v _ => v = (.string (⟨nm.toArray⟩ ++ ⟨#[58, 32]⟩))), (fun v _ => v = (.slice (some ⟨g, o, none⟩) L c)), (fun v _ => v = (.int .i64 (i : Int))), (fun v _ => v = (.pointer (some ⟨g, o + i * 6, none⟩))), (fun v _ => v = (.pointer (some ⟨g, o + i * 6 + 1, none⟩))), (fun v _ => v = (.agg #[.int .u8 (vk : Int), .int .i64 vn, .string ⟨vs.toArray⟩, .slice va vl vc, .slice va2 vl2 vc2])), (fun v _ => v = (.string ⟨rv.toArray⟩)), (fun v _ => v = (.string (⟨nm.toArray⟩ ++ ⟨#[58, 32]⟩ ++ ⟨rv.toArray⟩))), (fun v _ => v = (.string (⟨acc.toArray⟩ ++ ⟨#[44, 32]⟩ ++ (⟨nm.toArray⟩ ++ ⟨#[58, 32]⟩ ++ ⟨rv.toArray⟩))))] rfl ⟨?_, ?_, ?_, ?_, ?_, ?_, ?_, ?_, ?_, ?_, ?_, ?_, ?_, ?_, ?_, trivial⟩ _ rfl ⟨?_, ?_, ?_, ?_, ?_, ?_, ?_, ?_, ?_, ?_, ?_, ?_, ?_, ?_, ?_, trivial⟩ ?_
    iterate 15 exact Stable.is _ _
    ·intro x wx ox hN TT HTT; unfold StepTo; simp only [putAll, Act.put, zA, zB, zC]; clear hN
     go_wp2_with fail
     exact ⟨rfl, _, rfl, HTT.out _ _ rfl oR⟩
    ·intro x wx ox hN TT HTT; unfold StepTo; simp only [putAll, Act.put, zA, zB, zC]; clear hN
     go_wp2_with fail
     exact ⟨rfl, _, rfl, HTT.out _ _ rfl oR⟩
    ·intro x wx ox hN TT HTT; unfold StepTo; simp only [putAll, Act.put, zA, zB, zC]; clear hN
     go_wp2_with fail
     exact ⟨rfl, _, rfl, HTT.out _ _ rfl oR⟩
    ·intro x wx ox hN TT HTT; unfold StepTo; simp only [putAll, Act.put, zA, zB, zC, eI (hN.1 rfl), eI (hN.2.1 rfl)]; clear hN
     go_wp2_with fail
     exact ⟨rfl, _, rfl, HTT.out _ _ rfl oR⟩
    ·intro x wx ox hN TT HTT; unfold StepTo; simp only [putAll, Act.put, zA, zB, zC, eI (hN.1 rfl)]; clear hN
     go_wp2_with fail
     exact ⟨rfl, _, rfl, HTT.out _ _ rfl oR⟩
    ·intro x wx ox hN TT HTT; unfold StepTo; simp only [putAll, Act.put, zA, zB, zC, eI (hN.1 rfl)]; clear hN; obtain ⟨m1, m2, m3, m4, m5, m6⟩ := HX.out wx ox
     go_wp2_with fail
     exact ⟨rfl, _, rfl, HTT.out _ _ rfl oR⟩
    ·intro x wx ox hN TT HTT; unfold StepTo; simp only [putAll, Act.put, zA, zB, zC, eI (hN.1 rfl)]; clear hN
     go_wp2_with fail
     exact ⟨rfl, _, rfl, HTT.out _ _ rfl oR⟩
    ·intro x wx ox hN TT HTT; unfold StepTo; simp only [putAll, Act.put, zA, zB, zC]; clear hN
     go_wp2_with fail
     exact ⟨rfl, _, rfl, HTT.out _ _ rfl oR⟩
    ·intro x wx ox hN TT HTT; unfold StepTo; simp only [putAll, Act.put, zA, zB, zC]; clear hN
     go_wp2_with fail
     exact ⟨rfl, _, rfl, HTT.out _ _ rfl oR⟩
    ·intro x wx ox hN TT HTT; unfold StepTo; simp only [putAll, Act.put, zA, zB, zC, eI (hN.1 rfl), eI (hN.2.1 rfl)]; clear hN
     go_wp2_with fail
     exact ⟨rfl, _, rfl, HTT.out _ _ rfl oR⟩
    ·intro x wx ox hN TT HTT; unfold StepTo; simp only [putAll, Act.put, zA, zB, zC, eI (hN.1 rfl)]; clear hN
     go_wp2_with fail
     exact ⟨rfl, _, rfl, HTT.out _ _ rfl oR⟩
    ·intro x wx ox hN TT HTT; unfold StepTo; simp only [putAll, Act.put, zA, zB, zC, eI (hN.1 rfl)]; clear hN; obtain ⟨m1, m2, m3, m4, m5, m6⟩ := HX.out wx ox
     go_wp2_with fail
     exact ⟨rfl, _, rfl, HTT.out _ _ rfl oR⟩
    ·intro x wx ox hN TT HTT; unfold StepTo; simp only [putAll, Act.put, zA, zB, zC, eI (hN.1 rfl)]; clear hN; have ht := HREC.out wx ox; have HT := hid ht; clear ht
     go_wp2_with fail
     refine HT.out.mono ?_
     rintro e w6 ⟨rfl, o6⟩; have O6 := hid o6; clear o6
     go_wp2_with fail
     exact ⟨rfl, _, rfl, HTT.out _ _ rfl (O6.out)⟩
    ·intro x wx ox hN TT HTT; unfold StepTo; simp only [putAll, Act.put, zA, zB, zC, eI (hN.1 rfl), eI (hN.2.1 rfl)]; clear hN
     go_wp2_with fail
     exact ⟨rfl, _, rfl, HTT.out _ _ rfl oR⟩
    ·intro x wx ox hN TT HTT; unfold StepTo; simp only [putAll, Act.put, zA, zB, zC, eI (hN.1 rfl), eI (hN.2.1 rfl)]; clear hN
     go_wp2_with fail
     exact ⟨rfl, _, rfl, HTT.out _ _ rfl oR⟩
    intro xz wxz oxz hN; simp only [putAll, Act.put, zA, zB, zC, eI hN.1, eI hN.2.1, eI hN.2.2.1, eI hN.2.2.2.1, eI hN.2.2.2.2.1, eI hN.2.2.2.2.2.1, eI hN.2.2.2.2.2.2.1, eI hN.2.2.2.2.2.2.2.1, eI hN.2.2.2.2.2.2.2.2.1, eI hN.2.2.2.2.2.2.2.2.2.1, eI hN.2.2.2.2.2.2.2.2.2.2.1, eI hN.2.2.2.2.2.2.2.2.2.2.2.1, eI hN.2.2.2.2.2.2.2.2.2.2.2.2.1, eI hN.2.2.2.2.2.2.2.2.2.2.2.2.2.1, eI hN.2.2.2.2.2.2.2.2.2.2.2.2.2.2.1]; clear hN; have OZ := hid (HO.out.trans ((Only.refl _ wr).drew.trans oxz)); clear oxz
    go_wp2_with fail
    go_roundw
    case rel => exact ⟨i + 1, by simp, by omega, by rw [HA'.out, HNX.out]; simp only [← cat_list], OZ⟩
    case measure => simp [intOf]; omega
  ·have t1 : decide ((i : Int) < (L : Int)) = false := decide_eq_false (by omega); have hke : i = L := by omega
   subst hke; have hend := HEND.out; rw [HIL.out] at hend
   generalize parB [] its i = acc at *
   by_cases hz : 0 < i
   ·have t2 : decide ((i : Int) > 0) = true := decide_eq_true (by omega); rw [if_pos hz] at hend; have HE := hid hend; clear hend
    go_wp2_with fail
    go_ret
    rw [HE.out, ← cat_list]; exact ⟨rfl, HO.out⟩
   ·have t2 : decide ((i : Int) > 0) = false := decide_eq_false (by omega); rw [if_neg hz, List.append_nil] at hend; have HE := hid hend; clear hend
    go_wp2_with fail
    go_ret
    rw [HE.out]; exact ⟨rfl, HO.out⟩
theorem cells7_of {w : World} {g p : Nat} {x0 x1 x2 x3 x4 x5 x6 : Value} (h : ∀ j q, ([x0, x1, x2, x3, x4, x5, x6] : List Value)[j]? = some q → w.cell? ⟨g, p + j, none⟩ = some q) : w.cell? ⟨g, p, none⟩ = some x0 ∧ w.cell? ⟨g, p + 1, none⟩ = some x1 ∧ w.cell? ⟨g, p + 2, none⟩ = some x2 ∧ w.cell? ⟨g, p + 3, none⟩ = some x3 ∧ w.cell? ⟨g, p + 4, none⟩ = some x4 ∧ w.cell? ⟨g, p + 5, none⟩ = some x5 ∧ w.cell? ⟨g, p + 6, none⟩ = some x6 :=
 ⟨h 0 _ rfl, h 1 _ rfl, h 2 _ rfl, h 3 _ rfl, h 4 _ rfl, h 5 _ rfl, h 6 _ rfl⟩
theorem cells2_of {w : World} {g p : Nat} {x0 x1 : Value} (h : ∀ j q, ([x0, x1] : List Value)[j]? = some q → w.cell? ⟨g, p + j, none⟩ = some q) : w.cell? ⟨g, p, none⟩ = some x0 ∧ w.cell? ⟨g, p + 1, none⟩ = some x1 := ⟨h 0 _ rfl, h 1 _ rfl⟩
theorem sizeOf_sub {l : List SL} {k : Nat} {al nm on_ : List UInt8} {gs : List AR} {ds : List DR} {sub : List SL} {i : Nat} {h : i < l.length} (e : l[i] = .mk k al nm on_ gs ds sub) : SizeOf.sizeOf sub < SizeOf.sizeOf l := by
 have := List.sizeOf_lt_of_mem (List.getElem_mem h); rw [e, SL.mk.sizeOf_spec] at this; omega
def SameS (z : Nat) : Prop := ∀ (l : List SL), SizeOf.sizeOf l ≤ z → ∀ (G G' : Nat → Prop) (w : World) (v u : Value), CellAt w G (.row 7 (l.map selC)) v → CellAt w G' (.row 7 (l.map selC)) u →
  Calls Tryz.prog 51 #[v, u] w (fun e w' => e = .returned (.bool true) ∧ Only (fun _ => False) w w')
set_option maxRecDepth 100000 in
set_option maxHeartbeats 16000000 in
theorem sameS_step (z : Nat) (ih : SameS z) : SameS (z + 1) := by
 intro l hz G G' w v u h h'; obtain ⟨a, c, rfl, k1, k2, k3⟩ := rows_at h; obtain ⟨a', c', rfl, k1', k2', k3'⟩ := rows_at h'; obtain ⟨L, hL⟩ := eX (l.length); rw [hL] at k1 k1' ⊢; have HL := hid hL; have HK := hid k3; have HK' := hid k3'; have IH := hid ih; have HZ := hid hz; clear hL k3 k3' h h' ih hz
 go_enter Tryz.func51, Tryz.ntmps51
 go_wp2_with fail
 go_loopw [5] (fun v wr => ∃ i : Nat, v = .int .i64 (i : Int) ∧ i ≤ L ∧ Hid (Only (fun _ => False) w wr)) (fun v _ => L - (intOf v).toNat)
 case atStart => exact ⟨0, by simp, by omega, hid oR⟩
 case round =>
  obtain ⟨i, rfl, hi, HO⟩ := hrel
  by_cases hlt : i < L
  ·have t3 : decide ((i : Int) < (L : Int)) = true := by simpa using hlt
   have hi0 : (0 : Int) ≤ (i : Int) := by omega
   have hi1 : (i : Int) < (L : Int) := by omega
   have hil : i < l.length := by rw [HL.out]; exact hlt
   obtain ⟨g, o, xs, rfl, -, q1, q2⟩ := HK.out i hil; obtain ⟨g', o', xs', rfl, -, q1', q2'⟩ := HK'.out i hil; obtain ⟨k, al, nm, on_, gs, ds, sub, hsl⟩ : ∃ k al nm on_ gs ds sub, l[i] = .mk k al nm on_ gs ds sub := by
    cases hq : l[i] with
    | mk k al nm on_ gs ds sub => exact ⟨_, _, _, _, _, _, _, rfl⟩
   have hsz := sizeOf_sub hsl; rw [hsl] at q2 q2'; obtain ⟨gv, dv, sv, rfl, hg, hd, hs⟩ := sel_cells q2; obtain ⟨gv', dv', sv', rfl, hg', hd', hs'⟩ := sel_cells q2'; have hga := fun (wx : World) (ox : Only (fun _ => False) w wx) => sameArgs_true gs G G' wx _ _ (CellAt.only ox (fun _ _ h => h) _ _ hg) (CellAt.only ox (fun _ _ h => h) _ _ hg')
   have hsa := fun (wx : World) (ox : Only (fun _ => False) w wx) => IH.out sub (by have := HZ.out; omega) G G' wx _ _ (CellAt.only ox (fun _ _ h => h) _ _ hs) (CellAt.only ox (fun _ _ h => h) _ _ hs')
   obtain ⟨ag, cg, rfl, -, -, -⟩ := rows_at hg; obtain ⟨ag', cg', rfl, -, -, -⟩ := rows_at hg'; obtain ⟨ad, cd, rfl, n1, n2, n3⟩ := rows_at hd; obtain ⟨ad', cd', rfl, n1', n2', n3'⟩ := rows_at hd'; obtain ⟨as_, cs_, rfl, -, -, -⟩ := rows_at hs; obtain ⟨as', cs', rfl, -, -, -⟩ := rows_at hs'; obtain ⟨LG, hLG⟩ := eX (gs.length); obtain ⟨LD, hLD⟩ := eX (ds.length); obtain ⟨LS, hLS⟩ := eX (sub.length); rw [hLG] at hga q1 q1'; rw [hLD] at q1 q1' n1 n1'; rw [hLS] at hsa q1 q1'; obtain ⟨e0, e1, e2, e3, e4, e5, e6⟩ := cells7_of q1; obtain ⟨f0, f1, f2, f3, f4, f5, f6⟩ := cells7_of q1'; have e0 := keepc HO.out e0; have e1 := keepc HO.out e1; have e2 := keepc HO.out e2; have e3 := keepc HO.out e3; have e4 := keepc HO.out e4; have e5 := keepc HO.out e5; have e6 := keepc HO.out e6; have f0 := keepc HO.out f0; have f1 := keepc HO.out f1; have f2 := keepc HO.out f2; have f3 := keepc HO.out f3; have f4 := keepc HO.out f4; have f5 := keepc HO.out f5; have f6 := keepc HO.out f6; have f0 := keepc ((Only.refl _ wr).alloc (.cells #[.int .u8 (k : Int), .string ⟨al.toArray⟩, .string ⟨nm.toArray⟩, .string ⟨on_.toArray⟩, .slice ag LG cg, .slice ad LD cd, .slice as_ LS cs_] 53)) f0; have f1 := keepc ((Only.refl _ wr).alloc (.cells #[.int .u8 (k : Int), .string ⟨al.toArray⟩, .string ⟨nm.toArray⟩, .string ⟨on_.toArray⟩, .slice ag LG cg, .slice ad LD cd, .slice as_ LS cs_] 53)) f1; have f2 := keepc ((Only.refl _ wr).alloc (.cells #[.int .u8 (k : Int), .string ⟨al.toArray⟩, .string ⟨nm.toArray⟩, .string ⟨on_.toArray⟩, .slice ag LG cg, .slice ad LD cd, .slice as_ LS cs_] 53)) f2; have f3 := keepc ((Only.refl _ wr).alloc (.cells #[.int .u8 (k : Int), .string ⟨al.toArray⟩, .string ⟨nm.toArray⟩, .string ⟨on_.toArray⟩, .slice ag LG cg, .slice ad LD cd, .slice as_ LS cs_] 53)) f3; have f4 := keepc ((Only.refl _ wr).alloc (.cells #[.int .u8 (k : Int), .string ⟨al.toArray⟩, .string ⟨nm.toArray⟩, .string ⟨on_.toArray⟩, .slice ag LG cg, .slice ad LD cd, .slice as_ LS cs_] 53)) f4
   have f5 := keepc ((Only.refl _ wr).alloc (.cells #[.int .u8 (k : Int), .string ⟨al.toArray⟩, .string ⟨nm.toArray⟩, .string ⟨on_.toArray⟩, .slice ag LG cg, .slice ad LD cd, .slice as_ LS cs_] 53)) f5; have f6 := keepc ((Only.refl _ wr).alloc (.cells #[.int .u8 (k : Int), .string ⟨al.toArray⟩, .string ⟨nm.toArray⟩, .string ⟨on_.toArray⟩, .slice ag LG cg, .slice ad LD cd, .slice as_ LS cs_] 53)) f6; obtain ⟨wb, hwb⟩ := eX ((wr.alloc (.cells #[.int .u8 (k : Int), .string ⟨al.toArray⟩, .string ⟨nm.toArray⟩, .string ⟨on_.toArray⟩, .slice ag LG cg, .slice ad LD cd, .slice as_ LS cs_] 53)).alloc (.cells #[.int .u8 (k : Int), .string ⟨al.toArray⟩, .string ⟨nm.toArray⟩, .string ⟨on_.toArray⟩, .slice ag' LG cg', .slice ad' LD cd', .slice as' LS cs'] 53)); obtain ⟨wa, hwa⟩ := eX (wr.alloc (.cells #[.int .u8 (k : Int), .string ⟨al.toArray⟩, .string ⟨nm.toArray⟩, .string ⟨on_.toArray⟩, .slice ag LG cg, .slice ad LD cd, .slice as_ LS cs_] 53)); have ob : Only (fun _ => False) wr wb := by rw [← hwb]; exact ((Only.refl _ wr).alloc _).alloc _
   obtain ⟨bA, hbA⟩ := eX (wr.heap.size); obtain ⟨bB, hbB⟩ := eX (bA + 1); have hx1 : wb.heap[bA]? = some (.cells #[.int .u8 (k : Int), .string ⟨al.toArray⟩, .string ⟨nm.toArray⟩, .string ⟨on_.toArray⟩, .slice ag LG cg, .slice ad LD cd, .slice as_ LS cs_] 53 (0, 0)) := by rw [← hwb, ← hbA]; exact heap_old (heap_new wr _) _
   have hx2 : wb.heap[bB]? = some (.cells #[.int .u8 (k : Int), .string ⟨al.toArray⟩, .string ⟨nm.toArray⟩, .string ⟨on_.toArray⟩, .slice ag' LG cg', .slice ad' LD cd', .slice as' LS cs'] 53 (0, 0)) := by
    rw [← hwb, ← hbB, ← hbA]; have := heap_new (wr.alloc (.cells #[.int .u8 (k : Int), .string ⟨al.toArray⟩, .string ⟨nm.toArray⟩, .string ⟨on_.toArray⟩, .slice ag LG cg, .slice ad LD cd, .slice as_ LS cs_] 53)) (.cells #[.int .u8 (k : Int), .string ⟨al.toArray⟩, .string ⟨nm.toArray⟩, .string ⟨on_.toArray⟩, .slice ag' LG cg', .slice ad' LD cd', .slice as' LS cs'] 53); rw [World.size_alloc] at this; exact this
   have hsa1 : wa.heap.size = bB := by rw [← hwa, World.size_alloc, hbA, hbB]
   rw [hwa] at hwb f0 f1 f2 f3 f4 f5 f6; obtain ⟨c0, c1, c2, c3, c4, c5, c6, -⟩ := boxN7 hx1; obtain ⟨d0, d1, d2, d3, d4, d5, d6, -⟩ := boxN7 hx2; have HOB := hid (HO.out.trans ob); have HGA := hid (fun (wx : World) (ox : Only (fun _ => False) wb wx) => hga wx (HOB.out.trans ox)); have HSA := hid (fun (wx : World) (ox : Only (fun _ => False) wb wx) => hsa wx (HOB.out.trans ox)); have HND := hid n3; have HND' := hid n3'; have HWA := hid hwa; have HWB := hid hwb; have HBA := hid hbA; have HSA1 := hid hsa1; have HLD := hid hLD; have HC := hid (And.intro (c0) (And.intro (c1) (And.intro (c2) (And.intro (c3) (And.intro (c4) (And.intro (c5) (And.intro (c6) (And.intro (d0) (And.intro (d1) (And.intro (d2) (And.intro (d3) (And.intro (d4) (And.intro (d5) (d6)))))))))))))); clear hga hsa n3 n3' hwa hwb hbA hbB hsa1 hLD hLG hLS hx1 hx2 ob hg hd hs hg' hd' hs' q1 q1' q2 q2' hsz hsl c0 c1 c2 c3 c4 c5 c6 d0 d1 d2 d3 d4 d5 d6
   go_upto_region 7 with (fail)
   rw [HWA.out, HBA.out]; clear e0 e1 e2 e3 e4 e5 e6
   go_upto_region 8 with (fail)
   rw [HWB.out, HSA1.out]; clear f0 f1 f2 f3 f4 f5 f6; obtain ⟨c0, c1, c2, c3, c4, c5, c6, d0, d1, d2, d3, d4, d5, d6⟩ := HC.out
   go_wp2_with fail
   refine (HGA.out wb oR).mono ?_
   rintro e w6 ⟨rfl, o6⟩; have c0 := keepc o6 c0; have c1 := keepc o6 c1; have c2 := keepc o6 c2; have c3 := keepc o6 c3; have c4 := keepc o6 c4; have c5 := keepc o6 c5; have c6 := keepc o6 c6; have d0 := keepc o6 d0; have d1 := keepc o6 d1; have d2 := keepc o6 d2; have d3 := keepc o6 d3; have d4 := keepc o6 d4; have d5 := keepc o6 d5; have d6 := keepc o6 d6; have HO6 := hid o6; clear o6
   go_wp2_with fail
   refine (HSA.out w6 HO6.out).mono ?_
   rintro e w7 ⟨rfl, o7⟩; have c0 := keepc o7 c0; have c1 := keepc o7 c1; have c2 := keepc o7 c2; have c3 := keepc o7 c3; have c4 := keepc o7 c4; have c5 := keepc o7 c5; have c6 := keepc o7 c6; have d0 := keepc o7 d0; have d1 := keepc o7 d1; have d2 := keepc o7 d2; have d3 := keepc o7 d3; have d4 := keepc o7 d4; have d5 := keepc o7 d5; have d6 := keepc o7 d6; have HO7 := hid (HO6.out.trans o7); clear o7
   go_wp2_with fail
   clear c0 c1 c2 c3 c4 c5 c6 d0 d1 d2 d3 d4 d5 d6
   go_loopw [8] (fun v wr => ∃ j : Nat, v = .int .i64 (j : Int) ∧ j ≤ LD ∧ Hid (Only (fun _ => False) wb wr)) (fun v _ => LD - (intOf v).toNat)
   case atStart => exact ⟨0, by simp, by omega, HO7⟩
   case round =>
    clear HO7 HO6; obtain ⟨j, rfl, hj, HP⟩ := hrel; obtain ⟨c0, c1, c2, c3, c4, c5, c6, d0, d1, d2, d3, d4, d5, d6⟩ := HC.out; have c5 := keepc HP.out c5; have d5 := keepc HP.out d5; clear c0 c1 c2 c3 c4 c6 d0 d1 d2 d3 d4 d6
    by_cases hltj : j < LD
    ·have t4 : decide ((j : Int) < (LD : Int)) = true := by simpa using hltj
     have hj0 : (0 : Int) ≤ (j : Int) := by omega
     have hj1 : (j : Int) < (LD : Int) := by omega
     have hjl : j < ds.length := by rw [HLD.out]; exact hltj
     obtain ⟨gd, od, ys, rfl, -, p1, p2⟩ := HND.out j hjl; obtain ⟨gd', od', ys', rfl, -, p1', p2'⟩ := HND'.out j hjl; obtain ⟨av, rfl, ha⟩ := dir_cells p2; obtain ⟨av', rfl, ha'⟩ := dir_cells p2'; have hrec := fun (wx : World) (ox : Only (fun _ => False) w wx) => sameArgs_true _ G G' wx _ _ (CellAt.only ox (fun _ _ h => h) _ _ ha) (CellAt.only ox (fun _ _ h => h) _ _ ha')
     obtain ⟨ax, cx, rfl, -, -, -⟩ := rows_at ha; obtain ⟨ax', cx', rfl, -, -, -⟩ := rows_at ha'; obtain ⟨e0, e1⟩ := cells2_of p1; obtain ⟨f0, f1⟩ := cells2_of p1'
     generalize ds[j].name = dn at *
     generalize ds[j].args.length = LX at *
     have oww : Only (fun _ => False) w wr := HOB.out.trans HP.out; have HX := hid (fun (wx : World) (ox : Only (fun _ => False) wr.drew wx) => have o := (Only.refl _ wr).drew.trans ox; have ow := oww.trans o; And.intro (keepc o c5) (And.intro (keepc o d5) (And.intro (keepc ow e0) (And.intro (keepc ow e1) (And.intro (keepc ow f0) (keepc ow f1)))))); have HREC := hid (fun (wx : World) (ox : Only (fun _ => False) wr.drew wx) => hrec wx (oww.trans ((Only.refl _ wr).drew.trans ox))); clear hrec p1 p1' p2 p2' ha ha' e0 e1 f0 f1 oww
     go_upto_region 13 with (fail)
     clear c5 d5; refine wp_region_steps 28 (by kernel_rfl) rfl (by kernel_rfl) [some 86, some 87, some 88, some 89, some 90, some 91, some 92, some 93, some 94, some 95, some 96, some 97, some 98, some 99, some 100, some 101, some 102, some 103, some 104, some 105, some 106, some 107, some 108, some 109, some 110, some 111, some 112, some 113] rfl rfl (fun _ => False) [(fun v _ => v = (.pointer (some ⟨bA, 5, none⟩))), (fun v _ => v = (.slice (some ⟨gd, od, none⟩) LD cd)), (fun v _ => v = (.int .i64 (j : Int))), (fun v _ => v = (.pointer (some ⟨gd, od + j * 2, none⟩))), (fun v _ => v = (.pointer (some ⟨gd, od + j * 2, none⟩))), (fun v _ => v = (.string ⟨dn.toArray⟩)), (fun v _ => v = (.pointer (some ⟨bB, 5, none⟩))), (fun v _ => v = (.slice (some ⟨gd', od', none⟩) LD cd')), (fun v _ => v = (.int .i64 (j : Int))), (fun v _ => v = (.pointer (some ⟨gd', od' + j * 2, none⟩))), (fun v _ => v = (.pointer (some ⟨gd', od' + j * 2, none⟩))), (fun v _ => v = (.string ⟨dn.toArray⟩)), (fun v _ => v = (.bool false)), (fun v _ => v = (.bool false)), (fun v _ => v = (.pointer (some ⟨bA, 5, none⟩))), (fun v _ => v = (.slice (some ⟨gd, od, none⟩) LD cd)), (fun v _ => v = (.int .i64 (j : Int))), (fun v _ => v = (.pointer (some ⟨gd, od + j * 2, none⟩))), (fun v _ => v = (.pointer (some ⟨gd, od + j * 2 + 1, none⟩))), (fun v _ => v = (.slice ax LX cx)), (fun v _ => v = (.pointer (some ⟨bB, 5, none⟩))), (fun v _ => v = (.slice (some ⟨gd', od', none⟩) LD cd')), (fun v _ => v = (.int .i64 (j : Int))), (fun v _ => v = (.pointer (some ⟨gd', od' + j * 2, none⟩))), (fun v _ => v = (.pointer (some ⟨gd', od' + j * 2 + 1, none⟩))), (fun v _ => v = (.slice ax' LX cx')), (fun v _ => v = (.bool true)), (fun v _ => v = (.bool false))] rfl ⟨?_, ?_, ?_, ?_, ?_, ?_, ?_, ?_, ?_, ?_, ?_, ?_, ?_, ?_, ?_, ?_, ?_, ?_, ?_, ?_, ?_, ?_, ?_, ?_, ?_, ?_, ?_, ?_, trivial⟩ _ rfl ⟨?_, ?_, ?_, ?_, ?_, ?_, ?_, ?_, ?_, ?_, ?_, ?_, ?_, ?_, ?_, ?_, ?_, ?_, ?_, ?_, ?_, ?_, ?_, ?_, ?_, ?_, ?_, ?_, trivial⟩ ?_
     iterate 28 exact Stable.is _ _
     ·intro x wx ox hN TT HTT; unfold StepTo; simp only [putAll, Act.put, zA, zB, zC]; clear hN
      go_wp2_with fail
      exact ⟨rfl, _, rfl, HTT.out _ _ rfl oR⟩
     ·intro x wx ox hN TT HTT; unfold StepTo; simp only [putAll, Act.put, zA, zB, zC, eI (hN.1 rfl)]; clear hN; obtain ⟨m1, m2, m3, m4, m5, m6⟩ := HX.out wx ox
      go_wp2_with fail
      exact ⟨rfl, _, rfl, HTT.out _ _ rfl oR⟩
     ·intro x wx ox hN TT HTT; unfold StepTo; simp only [putAll, Act.put, zA, zB, zC]; clear hN
      go_wp2_with fail
      exact ⟨rfl, _, rfl, HTT.out _ _ rfl oR⟩
     ·intro x wx ox hN TT HTT; unfold StepTo; simp only [putAll, Act.put, zA, zB, zC, eI (hN.1 rfl), eI (hN.2.1 rfl)]; clear hN
      go_wp2_with fail
      exact ⟨rfl, _, rfl, HTT.out _ _ rfl oR⟩
     ·intro x wx ox hN TT HTT; unfold StepTo; simp only [putAll, Act.put, zA, zB, zC, eI (hN.1 rfl)]; clear hN
      go_wp2_with fail
      exact ⟨rfl, _, rfl, HTT.out _ _ rfl oR⟩
     ·intro x wx ox hN TT HTT; unfold StepTo; simp only [putAll, Act.put, zA, zB, zC, eI (hN.1 rfl)]; clear hN; obtain ⟨m1, m2, m3, m4, m5, m6⟩ := HX.out wx ox
      go_wp2_with fail
      exact ⟨rfl, _, rfl, HTT.out _ _ rfl oR⟩
     ·intro x wx ox hN TT HTT; unfold StepTo; simp only [putAll, Act.put, zA, zB, zC]; clear hN
      go_wp2_with fail
      exact ⟨rfl, _, rfl, HTT.out _ _ rfl oR⟩
     ·intro x wx ox hN TT HTT; unfold StepTo; simp only [putAll, Act.put, zA, zB, zC, eI (hN.1 rfl)]; clear hN; obtain ⟨m1, m2, m3, m4, m5, m6⟩ := HX.out wx ox
      go_wp2_with fail
      exact ⟨rfl, _, rfl, HTT.out _ _ rfl oR⟩
     ·intro x wx ox hN TT HTT; unfold StepTo; simp only [putAll, Act.put, zA, zB, zC]; clear hN
      go_wp2_with fail
      exact ⟨rfl, _, rfl, HTT.out _ _ rfl oR⟩
     ·intro x wx ox hN TT HTT; unfold StepTo; simp only [putAll, Act.put, zA, zB, zC, eI (hN.1 rfl), eI (hN.2.1 rfl)]; clear hN
      go_wp2_with fail
      exact ⟨rfl, _, rfl, HTT.out _ _ rfl oR⟩
     ·intro x wx ox hN TT HTT; unfold StepTo; simp only [putAll, Act.put, zA, zB, zC, eI (hN.1 rfl)]; clear hN
      go_wp2_with fail
      exact ⟨rfl, _, rfl, HTT.out _ _ rfl oR⟩
     ·intro x wx ox hN TT HTT; unfold StepTo; simp only [putAll, Act.put, zA, zB, zC, eI (hN.1 rfl)]; clear hN; obtain ⟨m1, m2, m3, m4, m5, m6⟩ := HX.out wx ox
      go_wp2_with fail
      exact ⟨rfl, _, rfl, HTT.out _ _ rfl oR⟩
     ·intro x wx ox hN TT HTT; unfold StepTo; simp only [putAll, Act.put, zA, zB, zC, eI (hN.1 rfl), eI (hN.2.1 rfl)]; clear hN
      go_wp2_with fail
      exact ⟨rfl, _, rfl, HTT.out _ _ rfl oR⟩
     ·intro x wx ox hN TT HTT; unfold StepTo; simp only [putAll, Act.put, zA, zB, zC, eI (hN.1 rfl)]; clear hN
      go_wp2_with fail
      exact ⟨rfl, _, rfl, HTT.out _ _ rfl oR⟩
     ·intro x wx ox hN TT HTT; unfold StepTo; simp only [putAll, Act.put, zA, zB, zC, eI (hN.1 rfl)]; clear hN
      go_wp2_with fail
      exact ⟨rfl, _, rfl, HTT.out _ _ rfl oR⟩
     ·intro x wx ox hN TT HTT; unfold StepTo; simp only [putAll, Act.put, zA, zB, zC, eI (hN.1 rfl), eI (hN.2.1 rfl)]; clear hN; obtain ⟨m1, m2, m3, m4, m5, m6⟩ := HX.out wx ox
      go_wp2_with fail
      exact ⟨rfl, _, rfl, HTT.out _ _ rfl oR⟩
     ·intro x wx ox hN TT HTT; unfold StepTo; simp only [putAll, Act.put, zA, zB, zC, eI (hN.1 rfl)]; clear hN
      go_wp2_with fail
      exact ⟨rfl, _, rfl, HTT.out _ _ rfl oR⟩
     ·intro x wx ox hN TT HTT; unfold StepTo; simp only [putAll, Act.put, zA, zB, zC, eI (hN.1 rfl), eI (hN.2.1 rfl), eI (hN.2.2.1 rfl)]; clear hN
      go_wp2_with fail
      exact ⟨rfl, _, rfl, HTT.out _ _ rfl oR⟩
     ·intro x wx ox hN TT HTT; unfold StepTo; simp only [putAll, Act.put, zA, zB, zC, eI (hN.1 rfl), eI (hN.2.1 rfl)]; clear hN
      go_wp2_with fail
      exact ⟨rfl, _, rfl, HTT.out _ _ rfl oR⟩
     ·intro x wx ox hN TT HTT; unfold StepTo; simp only [putAll, Act.put, zA, zB, zC, eI (hN.1 rfl), eI (hN.2.1 rfl)]; clear hN; obtain ⟨m1, m2, m3, m4, m5, m6⟩ := HX.out wx ox
      go_wp2_with fail
      exact ⟨rfl, _, rfl, HTT.out _ _ rfl oR⟩
     ·intro x wx ox hN TT HTT; unfold StepTo; simp only [putAll, Act.put, zA, zB, zC, eI (hN.1 rfl)]; clear hN
      go_wp2_with fail
      exact ⟨rfl, _, rfl, HTT.out _ _ rfl oR⟩
     ·intro x wx ox hN TT HTT; unfold StepTo; simp only [putAll, Act.put, zA, zB, zC, eI (hN.1 rfl), eI (hN.2.1 rfl)]; clear hN; obtain ⟨m1, m2, m3, m4, m5, m6⟩ := HX.out wx ox
      go_wp2_with fail
      exact ⟨rfl, _, rfl, HTT.out _ _ rfl oR⟩
     ·intro x wx ox hN TT HTT; unfold StepTo; simp only [putAll, Act.put, zA, zB, zC, eI (hN.1 rfl)]; clear hN
      go_wp2_with fail
      exact ⟨rfl, _, rfl, HTT.out _ _ rfl oR⟩
     ·intro x wx ox hN TT HTT; unfold StepTo; simp only [putAll, Act.put, zA, zB, zC, eI (hN.1 rfl), eI (hN.2.1 rfl), eI (hN.2.2.1 rfl)]; clear hN
      go_wp2_with fail
      exact ⟨rfl, _, rfl, HTT.out _ _ rfl oR⟩
     ·intro x wx ox hN TT HTT; unfold StepTo; simp only [putAll, Act.put, zA, zB, zC, eI (hN.1 rfl), eI (hN.2.1 rfl)]; clear hN
      go_wp2_with fail
      exact ⟨rfl, _, rfl, HTT.out _ _ rfl oR⟩
     ·intro x wx ox hN TT HTT; unfold StepTo; simp only [putAll, Act.put, zA, zB, zC, eI (hN.1 rfl), eI (hN.2.1 rfl)]; clear hN; obtain ⟨m1, m2, m3, m4, m5, m6⟩ := HX.out wx ox
      go_wp2_with fail
      exact ⟨rfl, _, rfl, HTT.out _ _ rfl oR⟩
     ·intro x wx ox hN TT HTT; unfold StepTo; simp only [putAll, Act.put, zA, zB, zC, eI (hN.1 rfl), eI (hN.2.1 rfl), eI (hN.2.2.1 rfl)]; clear hN; have ht := HREC.out wx ox; have HT := hid ht; clear ht
      go_wp2_with fail
      refine HT.out.mono ?_
      rintro e w6 ⟨rfl, o6⟩; have O6 := hid o6; clear o6
      go_wp2_with fail
      exact ⟨rfl, _, rfl, HTT.out _ _ rfl (O6.out)⟩
     ·intro x wx ox hN TT HTT; unfold StepTo; simp only [putAll, Act.put, zA, zB, zC, eI (hN.1 rfl), eI (hN.2.1 rfl)]; clear hN
      go_wp2_with fail
      exact ⟨rfl, _, rfl, HTT.out _ _ rfl oR⟩
     intro xz wxz oxz hN; simp only [putAll, Act.put, zA, zB, zC, eI hN.1, eI hN.2.1, eI hN.2.2.1, eI hN.2.2.2.1, eI hN.2.2.2.2.1, eI hN.2.2.2.2.2.1, eI hN.2.2.2.2.2.2.1, eI hN.2.2.2.2.2.2.2.1, eI hN.2.2.2.2.2.2.2.2.1, eI hN.2.2.2.2.2.2.2.2.2.1, eI hN.2.2.2.2.2.2.2.2.2.2.1, eI hN.2.2.2.2.2.2.2.2.2.2.2.1, eI hN.2.2.2.2.2.2.2.2.2.2.2.2.1, eI hN.2.2.2.2.2.2.2.2.2.2.2.2.2.1, eI hN.2.2.2.2.2.2.2.2.2.2.2.2.2.2.1, eI hN.2.2.2.2.2.2.2.2.2.2.2.2.2.2.2.1, eI hN.2.2.2.2.2.2.2.2.2.2.2.2.2.2.2.2.1, eI hN.2.2.2.2.2.2.2.2.2.2.2.2.2.2.2.2.2.1, eI hN.2.2.2.2.2.2.2.2.2.2.2.2.2.2.2.2.2.2.1, eI hN.2.2.2.2.2.2.2.2.2.2.2.2.2.2.2.2.2.2.2.1, eI hN.2.2.2.2.2.2.2.2.2.2.2.2.2.2.2.2.2.2.2.2.1, eI hN.2.2.2.2.2.2.2.2.2.2.2.2.2.2.2.2.2.2.2.2.2.1, eI hN.2.2.2.2.2.2.2.2.2.2.2.2.2.2.2.2.2.2.2.2.2.2.1, eI hN.2.2.2.2.2.2.2.2.2.2.2.2.2.2.2.2.2.2.2.2.2.2.2.1, eI hN.2.2.2.2.2.2.2.2.2.2.2.2.2.2.2.2.2.2.2.2.2.2.2.2.1, eI hN.2.2.2.2.2.2.2.2.2.2.2.2.2.2.2.2.2.2.2.2.2.2.2.2.2.1, eI hN.2.2.2.2.2.2.2.2.2.2.2.2.2.2.2.2.2.2.2.2.2.2.2.2.2.2.1, eI hN.2.2.2.2.2.2.2.2.2.2.2.2.2.2.2.2.2.2.2.2.2.2.2.2.2.2.2.1]; clear hN; have OZ := hid (HP.out.trans ((Only.refl _ wr).drew.trans oxz)); clear oxz
     go_wp2_with fail
     go_roundw
     case rel => exact ⟨j + 1, by simp [go_sem], by omega, OZ⟩
     case measure => simp [intOf]; omega
    ·have hke : j = LD := by omega
     subst hke; have t4 : decide ((j : Int) < (j : Int)) = false := by simp
     go_wp2_with fail
     clear c5 d5
     go_roundw
     case rel => exact ⟨i + 1, by simp, by omega, hid (HOB.out.trans HP.out)⟩
     case measure => simp [intOf]; omega
  ·have hke : i = L := by omega
   subst hke; have t3 : decide ((i : Int) < (i : Int)) = false := by simp
   go_wp2_with fail
   go_ret
   exact ⟨rfl, HO.out⟩
theorem sameS_all : ∀ z, SameS z
 | 0 => fun l hz => by exfalso; cases l <;> simp at hz
 | z + 1 => sameS_step z (sameS_all z)
theorem sameSet_true (l : List SL) (G G' : Nat → Prop) (w : World) (v u : Value) (h : CellAt w G (.row 7 (l.map selC)) v) (h' : CellAt w G' (.row 7 (l.map selC)) u) :
  Calls Tryz.prog 51 #[v, u] w (fun e w' => e = .returned (.bool true) ∧ Only (fun _ => False) w w') := sameS_all _ l (Nat.le_refl _) G G' w v u h h'
end Go.Proofs.YtnkpoddbbdmipaaGreatDoor
