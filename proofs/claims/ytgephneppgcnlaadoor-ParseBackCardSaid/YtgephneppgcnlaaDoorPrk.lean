/- The document's printer: inputs and fields. The document's printer: fields. The document's printer: arguments. -/
import Derived.Test.YtgephneppgcnlaaDoorPry
import Derived.Test.YtgephneppgcnlaaDoorSdT
import Derived.Test.YtgephneppgcnlaaDoorSdP
import Derived.Test.YtgephneppgcnlaaDoorEnD
import Derived.Test.YtgephneppgcnlaaDoorSmr
namespace Go.Proofs.YtgephneppgcnlaaDoor
open Go Go.RowKit
set_option linter.unusedVariables false
set_option linter.unusedSimpArgs false

def inpB (nm : List UInt8) (t : TR) (has : Bool) (v : VT) : List UInt8 := nm ++ [58, 32] ++ ren (typI t) ++ (if has then [32, 61, 32] ++ ren (valI v) else [])
theorem inp_ren (n : List It) (t : TR) (has : Bool) (v : VT) : ren (inpI n t has v) = inpB (ren n) t has v := by
 unfold inpI inpB
 rw [ren_app, ren_cons, ren_cons, ren_app]
 cases has
 ·simp [ren, It.src, sgI]
 ·rw [if_pos rfl, ren_cons, ren_cons, ren_cons]; simp [It.src, sgI]
set_option maxRecDepth 100000 in
set_option maxHeartbeats 8000000 in
theorem prI_any (nm : List UInt8) (t : TR) (has : Bool) (v : VT) (hw : has = true → WellV v) (G : Nat → Prop) (w : World) (cs ds : List Value) (h : CellsAt w G (trC t) cs) (h' : CellsAt w G (valC v) ds) (hl : (inpB nm t has v).length ≤ 1000000000000) :
  Calls Tryd.prog 32 #[.string ⟨nm.toArray⟩, .agg cs.toArray, .bool has, .agg ds.toArray] w (fun e w' => e = .returned (.string ⟨(inpB nm t has v).toArray⟩) ∧ Only (fun _ => False) w w') := by
 have hl0 := hl
 unfold inpB at hl0
 simp only [List.length_append] at hl0
 have hlt : (ren (typI t)).length ≤ 1000000000000 := by omega
 have hln : nm.length ≤ 1000000000000 := by omega
 have hta := fun (wx : World) (ox : Only (fun _ => False) w wx) => prT_any t G wx cs (CellsAt.only ox (fun _ _ h => h) _ _ h) hlt
 have hva := fun (wx : World) (ox : Only (fun _ => False) w wx) (hh : has = true) => prV_any v (hw hh) G wx ds (CellsAt.only ox (fun _ _ h => h) _ _ h') (by rw [if_pos hh, List.length_append] at hl0; omega)
 have hvl : has = true → (ren (valI v)).length ≤ 1000000000000 := fun hh => by rw [if_pos hh, List.length_append] at hl0; omega
 obtain ⟨s1, a1, l1, c1, b1, rfl⟩ := trC_form2 h
 obtain ⟨k, n, s2, a2, l2, e2, a3, l3, e3, rfl⟩ := valC_form2 h'
 obtain ⟨R, hR⟩ : ∃ R, inpB nm t has v = R := ⟨_, rfl⟩
 rw [hR]
 obtain ⟨wb, hwb⟩ : ∃ wb, (w.alloc (.cells #[.string ⟨s1.toArray⟩, .slice a1 l1 c1, .bool b1] 42)).alloc (.cells #[.int .u8 (k : Int), .int .i64 n, .string ⟨s2.toArray⟩, .slice a2 l2 e2, .slice a3 l3 e3] 45) = wb := ⟨_, rfl⟩
 have ob : Only (fun _ => False) w wb := by rw [← hwb]; exact ((Only.refl _ w).alloc _).alloc _
 obtain ⟨bA, hbA⟩ : ∃ b, w.heap.size = b := ⟨_, rfl⟩
 obtain ⟨bB, hbB⟩ : ∃ b, bA + 1 = b := ⟨_, rfl⟩
 have hx1 : wb.heap[bA]? = some (.cells #[.string ⟨s1.toArray⟩, .slice a1 l1 c1, .bool b1] 42 (0, 0)) := by rw [← hwb, ← hbA]; exact heap_old (heap_new w _) _
 have hx2 : wb.heap[bB]? = some (.cells #[.int .u8 (k : Int), .int .i64 n, .string ⟨s2.toArray⟩, .slice a2 l2 e2, .slice a3 l3 e3] 45 (0, 0)) := by
  rw [← hwb, ← hbB, ← hbA]
  have := heap_new (w.alloc (.cells #[.string ⟨s1.toArray⟩, .slice a1 l1 c1, .bool b1] 42)) (.cells #[.int .u8 (k : Int), .int .i64 n, .string ⟨s2.toArray⟩, .slice a2 l2 e2, .slice a3 l3 e3] 45)
  rw [World.size_alloc] at this; exact this
 obtain ⟨c0, c1', c2, -⟩ := boxN3 hx1
 obtain ⟨d0, d1, d2, d3, d4, -⟩ := boxN5 hx2
 have HD := Lib.hid (And.intro d0 (And.intro d1 (And.intro d2 (And.intro d3 d4))))
 have HOB := Lib.hid ob; have HWB := Lib.hid hwb; have HBA := Lib.hid hbA; have HBB := Lib.hid hbB
 have HT := Lib.hid (hta wb ob)
 have HV := Lib.hid (fun (wx : World) (ox : Only (fun _ => False) wb wx) => hva wx (HOB.out.trans ox))
 clear hx1 hx2 ob hwb hbA hbB h h' hta hva hw hl hl0
 unfold inpB at hR
 generalize ren (typI t) = rt at *
 cases has with
 | false =>
  rw [if_neg (by decide), List.append_nil] at hR
  have HR := Lib.hid hR
  clear hR
  go_enter Tryd.func32, Tryd.ntmps32
  go_upto_region 1 with (fail)
  rw [HWB.out, HBA.out, HBB.out]
  go_wp2_with fail
  refine HT.out.mono ?_
  rintro e w6 ⟨rfl, o6⟩
  have HO6 := Lib.hid (HOB.out.trans o6)
  clear c0 c1' c2 d0 d1 d2 d3 d4 o6
  go_wp2_with fail
  go_ret
  rw [← HR.out]; simp only [← cat_list]
  exact ⟨rfl, HO6.out⟩
 | true =>
  rw [if_pos rfl] at hR
  have hl2 := hvl rfl
  clear hvl
  have HV' := Lib.hid (fun wx ox => HV.out wx ox rfl)
  have hR2 := hR
  generalize ren (valI v) = rv at *
  have HR := Lib.hid hR
  clear hR hR2 HV
  go_enter Tryd.func32, Tryd.ntmps32
  go_upto_region 1 with (fail)
  rw [HWB.out, HBA.out, HBB.out]
  go_wp2_with fail
  refine HT.out.mono ?_
  rintro e w6 ⟨rfl, o6⟩
  have HV6 := Lib.hid (HV'.out w6 o6)
  obtain ⟨z0, z1, z2, z3, z4⟩ := HD.out
  have z0 := keepc o6 z0; have z1 := keepc o6 z1; have z2 := keepc o6 z2; have z3 := keepc o6 z3; have z4 := keepc o6 z4
  have HO6 := Lib.hid (HOB.out.trans o6)
  clear c0 c1' c2 d0 d1 d2 d3 d4 o6 HV'
  go_wp2_with fail
  refine HV6.out.mono ?_
  rintro e w7 ⟨rfl, o7⟩
  have HO7 := Lib.hid (HO6.out.trans o7)
  clear z0 z1 z2 z3 z4 o7
  go_wp2_with fail
  go_ret
  rw [← HR.out]; simp only [← cat_list]
  exact ⟨rfl, HO7.out⟩
end Go.Proofs.YtgephneppgcnlaaDoor
namespace Go.Proofs.YtgephneppgcnlaaDoor
open Go Go.RowKit
set_option linter.unusedVariables false
set_option linter.unusedSimpArgs false

def parB (name : List UInt8) (l : List (List It)) (i : Nat) : List UInt8 := name ++ (if i = 0 then [] else [40] ++ ren (sepI gapI (l.take i)))
theorem parB_next (name : List UInt8) (l : List (List It)) (i : Nat) (h : i < l.length) : parB name l (i + 1) = parB name l i ++ (if i = 0 then [40] else [44, 32]) ++ ren l[i] := by
 unfold parB
 rw [if_neg (by omega), sep_next gapI l i h]
 by_cases h0 : i = 0
 ·subst h0; rw [sep_zero]; simp
 ·rw [if_pos (by omega), if_neg h0, if_neg h0, gap_ren]; simp
theorem parB_end (name : List UInt8) (l : List (List It)) : name ++ ren (parI l) = parB name l l.length ++ (if 0 < l.length then [41] else []) := by
 unfold parB parI
 cases l with
 | nil => simp [ren]
 | cons a l =>
  rw [if_neg (by simp), if_neg (by simp), if_pos (by simp), List.take_length, ren_cons, ren_app]
  simp [ren, It.src, sgI]
theorem parB_le (name : List UInt8) (l : List (List It)) (i : Nat) (hi : i ≤ l.length) : (parB name l i).length ≤ (name ++ ren (parI l)).length := by
 rw [parB_end]
 unfold parB
 by_cases h0 : i = 0
 ·rw [if_pos h0]; simp only [List.length_append, List.length_nil]; omega
 ·rw [if_neg h0]
  cases l with
  | nil => simp at hi; omega
  | cons a l =>
   have := sep_le gapI (a :: l) i
   rw [if_neg (by simp), List.take_length]
   simp only [List.length_append, List.length_cons, List.length_nil] at this ⊢
   omega
end Go.Proofs.YtgephneppgcnlaaDoor
namespace Go.Proofs.YtgephneppgcnlaaDoor
open Go Go.RowKit
set_option linter.unusedVariables false
set_option linter.unusedSimpArgs false

theorem arg_ren (a : AR) : ren (argI a) = a.name ++ [58, 32] ++ ren (valI a.v) := by
 unfold argI pairI
 rw [ren_cons, ren_cons, ren_cons]
 simp [It.src, nmI, sgI]
set_option maxRecDepth 100000 in
set_option maxHeartbeats 16000000 in
theorem prA_any (gs : List AR) (hw : ∀ a ∈ gs, WellV a.v) (G : Nat → Prop) (w : World) (v : Value) (h : CellAt w G (.row 6 (gs.map argC)) v) (hl : (ren (argsI gs)).length ≤ 1000000000000) :
  Calls Tryd.prog 88 #[v] w (fun e w' => e = .returned (.string ⟨(ren (argsI gs)).toArray⟩) ∧ Only (fun _ => False) w w') := by
 obtain ⟨a, c, rfl, k1, k2, k3⟩ := rows_at h
 obtain ⟨L, hL⟩ : ∃ L, gs.length = L := ⟨_, rfl⟩
 obtain ⟨its, hits⟩ : ∃ l, gs.map argI = l := ⟨_, rfl⟩
 have hil : its.length = L := by rw [← hits, List.length_map, hL]
 have hig : ∀ i (h : i < gs.length) (h' : i < its.length), ren its[i] = gs[i].name ++ [58, 32] ++ ren (valI gs[i].v) := fun i h h' => by subst hits; rw [List.getElem_map, arg_ren]
 have hend := parB_end [] its
 have he : ren (argsI gs) = [] ++ ren (parI its) := by unfold argsI; rw [hits]; rfl
 obtain ⟨R, hR⟩ : ∃ R, ren (argsI gs) = R := ⟨_, rfl⟩
 rw [hR] at hl he ⊢
 rw [hL] at k1 ⊢
 have hpl : ([] ++ ren (parI its)).length ≤ 1000000000000 := by rw [← he]; exact hl
 rw [← he] at hend
 have HL := Lib.hid hL; have HK := Lib.hid k3; have HIG := Lib.hid hig; have HIL := Lib.hid hil; have HPL := Lib.hid hpl; have HEND := Lib.hid hend; have HW := Lib.hid hw
 clear h hw hL hits hil hig hend he hR hpl k3
 go_enter Tryd.func88, Tryd.ntmps88
 go_wp2_with fail
 go_loopw [3, 4] (fun x y wr => ∃ i : Nat, y = .int .i64 (i : Int) ∧ i ≤ L ∧ x = .string ⟨(parB [] its i).toArray⟩ ∧ Hid (Only (fun _ => False) w wr)) (fun _ y _ => L - (intOf y).toNat)
 case atStart => exact ⟨0, rfl, by omega, by unfold parB; rw [if_pos rfl]; rfl, Lib.hid (Only.refl _ _)⟩
 case round =>
  obtain ⟨i, rfl, hi, rfl, HO⟩ := hrel
  have hal := Nat.le_trans (parB_le [] its i (by rw [HIL.out]; omega)) HPL.out
  by_cases hlt : i < L
  ·have t1 : decide ((i : Int) < (L : Int)) = true := decide_eq_true (by omega)
   have hi0 : (0 : Int) ≤ (i : Int) := by omega
   have hi1 : (i : Int) < (L : Int) := by omega
   have hvi : i < gs.length := by rw [HL.out]; exact hlt
   have hii : i < its.length := by rw [HIL.out]; exact hlt
   have hnx := parB_next [] its i hii
   have hnl := Nat.le_trans (parB_le [] its (i + 1) (by rw [HIL.out]; omega)) HPL.out
   rw [HIG.out i hvi hii] at hnx
   rw [hnx] at hnl
   simp only [List.length_append] at hnl
   have hwv := HW.out gs[i] (List.getElem_mem hvi)
   obtain ⟨g, o, xs, rfl, -, q1, q2⟩ := HK.out i hvi
   obtain ⟨us, rfl, hu⟩ := arg_cells q2
   have hrl : (ren (valI gs[i].v)).length ≤ 1000000000000 := by omega
   have hnml : gs[i].name.length ≤ 1000000000000 := by omega
   have hrec := fun (wx : World) (ox : Only (fun _ => False) w wx) => prV_any _ hwv G wx us (CellsAt.only ox (fun _ _ h => h) _ _ hu) hrl
   obtain ⟨vk, vn, vs, va, vl, vc, va2, vl2, vc2, rfl⟩ := valC_form2 hu
   obtain ⟨e0, e1, e2, e3, e4, e5⟩ := cells6_of q1
   obtain ⟨acc, hacc⟩ : ∃ a, parB [] its i = a := ⟨_, rfl⟩
   obtain ⟨acc', hacc'⟩ : ∃ a, parB [] its (i + 1) = a := ⟨_, rfl⟩
   have HA' := Lib.hid hacc'
   rw [hacc] at hal hnx hnl ⊢
   rw [hacc'] at hnx
   generalize gs[i].name = nm at *
   generalize ren (valI gs[i].v) = rv at *
   have HNX := Lib.hid hnx
   have HX := Lib.hid (fun (wx : World) (ox : Only (fun _ => False) wr.drew wx) => have ow := HO.out.trans ((Only.refl _ wr).drew.trans ox); And.intro (keepc ow e0) (And.intro (keepc ow e1) (And.intro (keepc ow e2) (And.intro (keepc ow e3) (And.intro (keepc ow e4) (keepc ow e5))))))
   have HREC := Lib.hid (fun (wx : World) (ox : Only (fun _ => False) wr.drew wx) => hrec wx (HO.out.trans ((Only.refl _ wr).drew.trans ox)))
   clear hacc hacc' hnx hnl hrec q1 q2 hu e0 e1 e2 e3 e4 e5 hwv
   by_cases hz : i = 0
   ·have t2 : ((i : Int) == 0) = true := by simp; omega
    rw [if_pos hz] at HNX
    clear hz
    go_upto_region 8 with (fail)
    refine wp_region_steps 15 (by kernel_rfl) rfl (by kernel_rfl) [some 17, some 18, some 19, some 20, some 21, some 22, some 23, some 24, some 25, some 26, some 27, some 28, some 29, some 30, some 31] rfl rfl (fun _ => False) [(fun v _ => v = (.string (⟨acc.toArray⟩ ++ ⟨#[40]⟩))), (fun v _ => v = (.slice (some ⟨g, o, none⟩) L c)), (fun v _ => v = (.int .i64 (i : Int))), (fun v _ => v = (.pointer (some ⟨g, o + i * 6, none⟩))), (fun v _ => v = (.pointer (some ⟨g, o + i * 6, none⟩))), (fun v _ => v = (.string ⟨nm.toArray⟩)), (fun v _ => v = (.string (⟨nm.toArray⟩ ++ ⟨#[58, 32]⟩))), (fun v _ => v = (.slice (some ⟨g, o, none⟩) L c)), (fun v _ => v = (.int .i64 (i : Int))), (fun v _ => v = (.pointer (some ⟨g, o + i * 6, none⟩))), (fun v _ => v = (.pointer (some ⟨g, o + i * 6 + 1, none⟩))), (fun v _ => v = (.agg #[.int .u8 (vk : Int), .int .i64 vn, .string ⟨vs.toArray⟩, .slice va vl vc, .slice va2 vl2 vc2])), (fun v _ => v = (.string ⟨rv.toArray⟩)), (fun v _ => v = (.string (⟨nm.toArray⟩ ++ ⟨#[58, 32]⟩ ++ ⟨rv.toArray⟩))), (fun v _ => v = (.string (⟨acc.toArray⟩ ++ ⟨#[40]⟩ ++ (⟨nm.toArray⟩ ++ ⟨#[58, 32]⟩ ++ ⟨rv.toArray⟩))))] rfl ⟨?_, ?_, ?_, ?_, ?_, ?_, ?_, ?_, ?_, ?_, ?_, ?_, ?_, ?_, ?_, trivial⟩ _ rfl ⟨?_, ?_, ?_, ?_, ?_, ?_, ?_, ?_, ?_, ?_, ?_, ?_, ?_, ?_, ?_, trivial⟩ ?_
    ·exact Stable.is _ _
    ·exact Stable.is _ _
    ·exact Stable.is _ _
    ·exact Stable.is _ _
    ·exact Stable.is _ _
    ·exact Stable.is _ _
    ·exact Stable.is _ _
    ·exact Stable.is _ _
    ·exact Stable.is _ _
    ·exact Stable.is _ _
    ·exact Stable.is _ _
    ·exact Stable.is _ _
    ·exact Stable.is _ _
    ·exact Stable.is _ _
    ·exact Stable.is _ _
    ·intro x wx ox hN TT HTT
     clear hN
     unfold StepTo
     simp only [putAll, Act.put, List.setIfInBounds_toArray, List.set_cons_succ, List.set_cons_zero]
     go_wp2_with fail
     exact ⟨rfl, _, rfl, HTT.out _ _ (rfl) (Only.refl _ _)⟩
    ·intro x wx ox hN TT HTT
     clear hN
     unfold StepTo
     simp only [putAll, Act.put, List.setIfInBounds_toArray, List.set_cons_succ, List.set_cons_zero]
     go_wp2_with fail
     exact ⟨rfl, _, rfl, HTT.out _ _ (rfl) (Only.refl _ _)⟩
    ·intro x wx ox hN TT HTT
     clear hN
     unfold StepTo
     simp only [putAll, Act.put, List.setIfInBounds_toArray, List.set_cons_succ, List.set_cons_zero]
     go_wp2_with fail
     exact ⟨rfl, _, rfl, HTT.out _ _ (rfl) (Only.refl _ _)⟩
    ·intro x wx ox hN TT HTT
     have r18 : x 1 = (.slice (some ⟨g, o, none⟩) L c) := hN.1 rfl
     have r19 : x 2 = (.int .i64 (i : Int)) := hN.2.1 rfl
     clear hN
     unfold StepTo
     simp only [putAll, Act.put, List.setIfInBounds_toArray, List.set_cons_succ, List.set_cons_zero, r18, r19]
     clear r18 r19
     go_wp2_with fail
     exact ⟨rfl, _, rfl, HTT.out _ _ (rfl) (Only.refl _ _)⟩
    ·intro x wx ox hN TT HTT
     have r20 : x 3 = (.pointer (some ⟨g, o + i * 6, none⟩)) := hN.1 rfl
     clear hN
     unfold StepTo
     simp only [putAll, Act.put, List.setIfInBounds_toArray, List.set_cons_succ, List.set_cons_zero, r20]
     clear r20
     go_wp2_with fail
     exact ⟨rfl, _, rfl, HTT.out _ _ (rfl) (Only.refl _ _)⟩
    ·intro x wx ox hN TT HTT
     have r21 : x 4 = (.pointer (some ⟨g, o + i * 6, none⟩)) := hN.1 rfl
     clear hN
     unfold StepTo
     simp only [putAll, Act.put, List.setIfInBounds_toArray, List.set_cons_succ, List.set_cons_zero, r21]
     clear r21
     obtain ⟨m1, m2, m3, m4, m5, m6⟩ := HX.out wx ox
     go_wp2_with fail
     exact ⟨rfl, _, rfl, HTT.out _ _ (rfl) (Only.refl _ _)⟩
    ·intro x wx ox hN TT HTT
     have r22 : x 5 = (.string ⟨nm.toArray⟩) := hN.1 rfl
     clear hN
     unfold StepTo
     simp only [putAll, Act.put, List.setIfInBounds_toArray, List.set_cons_succ, List.set_cons_zero, r22]
     clear r22
     go_wp2_with fail
     exact ⟨rfl, _, rfl, HTT.out _ _ (rfl) (Only.refl _ _)⟩
    ·intro x wx ox hN TT HTT
     clear hN
     unfold StepTo
     simp only [putAll, Act.put, List.setIfInBounds_toArray, List.set_cons_succ, List.set_cons_zero]
     go_wp2_with fail
     exact ⟨rfl, _, rfl, HTT.out _ _ (rfl) (Only.refl _ _)⟩
    ·intro x wx ox hN TT HTT
     clear hN
     unfold StepTo
     simp only [putAll, Act.put, List.setIfInBounds_toArray, List.set_cons_succ, List.set_cons_zero]
     go_wp2_with fail
     exact ⟨rfl, _, rfl, HTT.out _ _ (rfl) (Only.refl _ _)⟩
    ·intro x wx ox hN TT HTT
     have r24 : x 7 = (.slice (some ⟨g, o, none⟩) L c) := hN.1 rfl
     have r25 : x 8 = (.int .i64 (i : Int)) := hN.2.1 rfl
     clear hN
     unfold StepTo
     simp only [putAll, Act.put, List.setIfInBounds_toArray, List.set_cons_succ, List.set_cons_zero, r24, r25]
     clear r24 r25
     go_wp2_with fail
     exact ⟨rfl, _, rfl, HTT.out _ _ (rfl) (Only.refl _ _)⟩
    ·intro x wx ox hN TT HTT
     have r26 : x 9 = (.pointer (some ⟨g, o + i * 6, none⟩)) := hN.1 rfl
     clear hN
     unfold StepTo
     simp only [putAll, Act.put, List.setIfInBounds_toArray, List.set_cons_succ, List.set_cons_zero, r26]
     clear r26
     go_wp2_with fail
     exact ⟨rfl, _, rfl, HTT.out _ _ (rfl) (Only.refl _ _)⟩
    ·intro x wx ox hN TT HTT
     have r27 : x 10 = (.pointer (some ⟨g, o + i * 6 + 1, none⟩)) := hN.1 rfl
     clear hN
     unfold StepTo
     simp only [putAll, Act.put, List.setIfInBounds_toArray, List.set_cons_succ, List.set_cons_zero, r27]
     clear r27
     obtain ⟨m1, m2, m3, m4, m5, m6⟩ := HX.out wx ox
     go_wp2_with fail
     exact ⟨rfl, _, rfl, HTT.out _ _ (rfl) (Only.refl _ _)⟩
    ·intro x wx ox hN TT HTT
     have r28 : x 11 = (.agg #[.int .u8 (vk : Int), .int .i64 vn, .string ⟨vs.toArray⟩, .slice va vl vc, .slice va2 vl2 vc2]) := hN.1 rfl
     clear hN
     unfold StepTo
     simp only [putAll, Act.put, List.setIfInBounds_toArray, List.set_cons_succ, List.set_cons_zero, r28]
     clear r28
     have ht := HREC.out wx ox
     have HT := Lib.hid ht; clear ht
     go_wp2_with fail
     refine HT.out.mono ?_
     rintro e w6 ⟨rfl, o6⟩
     have O6 := Lib.hid o6; clear o6
     go_wp2_with fail
     exact ⟨rfl, _, rfl, HTT.out _ _ (rfl) (O6.out)⟩
    ·intro x wx ox hN TT HTT
     have r23 : x 6 = (.string (⟨nm.toArray⟩ ++ ⟨#[58, 32]⟩)) := hN.1 rfl
     have r29 : x 12 = (.string ⟨rv.toArray⟩) := hN.2.1 rfl
     clear hN
     unfold StepTo
     simp only [putAll, Act.put, List.setIfInBounds_toArray, List.set_cons_succ, List.set_cons_zero, r23, r29]
     clear r23 r29
     go_wp2_with fail
     exact ⟨rfl, _, rfl, HTT.out _ _ (rfl) (Only.refl _ _)⟩
    ·intro x wx ox hN TT HTT
     have r17 : x 0 = (.string (⟨acc.toArray⟩ ++ ⟨#[40]⟩)) := hN.1 rfl
     have r30 : x 13 = (.string (⟨nm.toArray⟩ ++ ⟨#[58, 32]⟩ ++ ⟨rv.toArray⟩)) := hN.2.1 rfl
     clear hN
     unfold StepTo
     simp only [putAll, Act.put, List.setIfInBounds_toArray, List.set_cons_succ, List.set_cons_zero, r17, r30]
     clear r17 r30
     go_wp2_with fail
     exact ⟨rfl, _, rfl, HTT.out _ _ (rfl) (Only.refl _ _)⟩
    intro xz wxz oxz hN
    have r17 : xz 0 = (.string (⟨acc.toArray⟩ ++ ⟨#[40]⟩)) := hN.1
    have r18 : xz 1 = (.slice (some ⟨g, o, none⟩) L c) := hN.2.1
    have r19 : xz 2 = (.int .i64 (i : Int)) := hN.2.2.1
    have r20 : xz 3 = (.pointer (some ⟨g, o + i * 6, none⟩)) := hN.2.2.2.1
    have r21 : xz 4 = (.pointer (some ⟨g, o + i * 6, none⟩)) := hN.2.2.2.2.1
    have r22 : xz 5 = (.string ⟨nm.toArray⟩) := hN.2.2.2.2.2.1
    have r23 : xz 6 = (.string (⟨nm.toArray⟩ ++ ⟨#[58, 32]⟩)) := hN.2.2.2.2.2.2.1
    have r24 : xz 7 = (.slice (some ⟨g, o, none⟩) L c) := hN.2.2.2.2.2.2.2.1
    have r25 : xz 8 = (.int .i64 (i : Int)) := hN.2.2.2.2.2.2.2.2.1
    have r26 : xz 9 = (.pointer (some ⟨g, o + i * 6, none⟩)) := hN.2.2.2.2.2.2.2.2.2.1
    have r27 : xz 10 = (.pointer (some ⟨g, o + i * 6 + 1, none⟩)) := hN.2.2.2.2.2.2.2.2.2.2.1
    have r28 : xz 11 = (.agg #[.int .u8 (vk : Int), .int .i64 vn, .string ⟨vs.toArray⟩, .slice va vl vc, .slice va2 vl2 vc2]) := hN.2.2.2.2.2.2.2.2.2.2.2.1
    have r29 : xz 12 = (.string ⟨rv.toArray⟩) := hN.2.2.2.2.2.2.2.2.2.2.2.2.1
    have r30 : xz 13 = (.string (⟨nm.toArray⟩ ++ ⟨#[58, 32]⟩ ++ ⟨rv.toArray⟩)) := hN.2.2.2.2.2.2.2.2.2.2.2.2.2.1
    have r31 : xz 14 = (.string (⟨acc.toArray⟩ ++ ⟨#[40]⟩ ++ (⟨nm.toArray⟩ ++ ⟨#[58, 32]⟩ ++ ⟨rv.toArray⟩))) := hN.2.2.2.2.2.2.2.2.2.2.2.2.2.2.1
    clear hN
    simp only [putAll, Act.put, List.setIfInBounds_toArray, List.set_cons_succ, List.set_cons_zero, r17, r18, r19, r20, r21, r22, r23, r24, r25, r26, r27, r28, r29, r30, r31]
    clear r17 r18 r19 r20 r21 r22 r23 r24 r25 r26 r27 r28 r29 r30 r31
    have OZ := Lib.hid (HO.out.trans ((Only.refl _ wr).drew.trans oxz)); clear oxz
    go_wp2_with fail
    go_roundw
    case rel => exact ⟨i + 1, by simp, by omega, by rw [HA'.out, HNX.out]; simp only [← cat_list], OZ⟩
    case measure => simp [intOf]; omega
   ·have t2 : ((i : Int) == 0) = false := by simp; omega
    rw [if_neg hz] at HNX
    clear hz
    go_upto_region 8 with (fail)
    refine wp_region_steps 15 (by kernel_rfl) rfl (by kernel_rfl) [some 17, some 18, some 19, some 20, some 21, some 22, some 23, some 24, some 25, some 26, some 27, some 28, some 29, some 30, some 31] rfl rfl (fun _ => False) [(fun v _ => v = (.string (⟨acc.toArray⟩ ++ ⟨#[44, 32]⟩))), (fun v _ => v = (.slice (some ⟨g, o, none⟩) L c)), (fun v _ => v = (.int .i64 (i : Int))), (fun v _ => v = (.pointer (some ⟨g, o + i * 6, none⟩))), (fun v _ => v = (.pointer (some ⟨g, o + i * 6, none⟩))), (fun v _ => v = (.string ⟨nm.toArray⟩)), (fun v _ => v = (.string (⟨nm.toArray⟩ ++ ⟨#[58, 32]⟩))), (fun v _ => v = (.slice (some ⟨g, o, none⟩) L c)), (fun v _ => v = (.int .i64 (i : Int))), (fun v _ => v = (.pointer (some ⟨g, o + i * 6, none⟩))), (fun v _ => v = (.pointer (some ⟨g, o + i * 6 + 1, none⟩))), (fun v _ => v = (.agg #[.int .u8 (vk : Int), .int .i64 vn, .string ⟨vs.toArray⟩, .slice va vl vc, .slice va2 vl2 vc2])), (fun v _ => v = (.string ⟨rv.toArray⟩)), (fun v _ => v = (.string (⟨nm.toArray⟩ ++ ⟨#[58, 32]⟩ ++ ⟨rv.toArray⟩))), (fun v _ => v = (.string (⟨acc.toArray⟩ ++ ⟨#[44, 32]⟩ ++ (⟨nm.toArray⟩ ++ ⟨#[58, 32]⟩ ++ ⟨rv.toArray⟩))))] rfl ⟨?_, ?_, ?_, ?_, ?_, ?_, ?_, ?_, ?_, ?_, ?_, ?_, ?_, ?_, ?_, trivial⟩ _ rfl ⟨?_, ?_, ?_, ?_, ?_, ?_, ?_, ?_, ?_, ?_, ?_, ?_, ?_, ?_, ?_, trivial⟩ ?_
    ·exact Stable.is _ _
    ·exact Stable.is _ _
    ·exact Stable.is _ _
    ·exact Stable.is _ _
    ·exact Stable.is _ _
    ·exact Stable.is _ _
    ·exact Stable.is _ _
    ·exact Stable.is _ _
    ·exact Stable.is _ _
    ·exact Stable.is _ _
    ·exact Stable.is _ _
    ·exact Stable.is _ _
    ·exact Stable.is _ _
    ·exact Stable.is _ _
    ·exact Stable.is _ _
    ·intro x wx ox hN TT HTT
     clear hN
     unfold StepTo
     simp only [putAll, Act.put, List.setIfInBounds_toArray, List.set_cons_succ, List.set_cons_zero]
     go_wp2_with fail
     exact ⟨rfl, _, rfl, HTT.out _ _ (rfl) (Only.refl _ _)⟩
    ·intro x wx ox hN TT HTT
     clear hN
     unfold StepTo
     simp only [putAll, Act.put, List.setIfInBounds_toArray, List.set_cons_succ, List.set_cons_zero]
     go_wp2_with fail
     exact ⟨rfl, _, rfl, HTT.out _ _ (rfl) (Only.refl _ _)⟩
    ·intro x wx ox hN TT HTT
     clear hN
     unfold StepTo
     simp only [putAll, Act.put, List.setIfInBounds_toArray, List.set_cons_succ, List.set_cons_zero]
     go_wp2_with fail
     exact ⟨rfl, _, rfl, HTT.out _ _ (rfl) (Only.refl _ _)⟩
    ·intro x wx ox hN TT HTT
     have r18 : x 1 = (.slice (some ⟨g, o, none⟩) L c) := hN.1 rfl
     have r19 : x 2 = (.int .i64 (i : Int)) := hN.2.1 rfl
     clear hN
     unfold StepTo
     simp only [putAll, Act.put, List.setIfInBounds_toArray, List.set_cons_succ, List.set_cons_zero, r18, r19]
     clear r18 r19
     go_wp2_with fail
     exact ⟨rfl, _, rfl, HTT.out _ _ (rfl) (Only.refl _ _)⟩
    ·intro x wx ox hN TT HTT
     have r20 : x 3 = (.pointer (some ⟨g, o + i * 6, none⟩)) := hN.1 rfl
     clear hN
     unfold StepTo
     simp only [putAll, Act.put, List.setIfInBounds_toArray, List.set_cons_succ, List.set_cons_zero, r20]
     clear r20
     go_wp2_with fail
     exact ⟨rfl, _, rfl, HTT.out _ _ (rfl) (Only.refl _ _)⟩
    ·intro x wx ox hN TT HTT
     have r21 : x 4 = (.pointer (some ⟨g, o + i * 6, none⟩)) := hN.1 rfl
     clear hN
     unfold StepTo
     simp only [putAll, Act.put, List.setIfInBounds_toArray, List.set_cons_succ, List.set_cons_zero, r21]
     clear r21
     obtain ⟨m1, m2, m3, m4, m5, m6⟩ := HX.out wx ox
     go_wp2_with fail
     exact ⟨rfl, _, rfl, HTT.out _ _ (rfl) (Only.refl _ _)⟩
    ·intro x wx ox hN TT HTT
     have r22 : x 5 = (.string ⟨nm.toArray⟩) := hN.1 rfl
     clear hN
     unfold StepTo
     simp only [putAll, Act.put, List.setIfInBounds_toArray, List.set_cons_succ, List.set_cons_zero, r22]
     clear r22
     go_wp2_with fail
     exact ⟨rfl, _, rfl, HTT.out _ _ (rfl) (Only.refl _ _)⟩
    ·intro x wx ox hN TT HTT
     clear hN
     unfold StepTo
     simp only [putAll, Act.put, List.setIfInBounds_toArray, List.set_cons_succ, List.set_cons_zero]
     go_wp2_with fail
     exact ⟨rfl, _, rfl, HTT.out _ _ (rfl) (Only.refl _ _)⟩
    ·intro x wx ox hN TT HTT
     clear hN
     unfold StepTo
     simp only [putAll, Act.put, List.setIfInBounds_toArray, List.set_cons_succ, List.set_cons_zero]
     go_wp2_with fail
     exact ⟨rfl, _, rfl, HTT.out _ _ (rfl) (Only.refl _ _)⟩
    ·intro x wx ox hN TT HTT
     have r24 : x 7 = (.slice (some ⟨g, o, none⟩) L c) := hN.1 rfl
     have r25 : x 8 = (.int .i64 (i : Int)) := hN.2.1 rfl
     clear hN
     unfold StepTo
     simp only [putAll, Act.put, List.setIfInBounds_toArray, List.set_cons_succ, List.set_cons_zero, r24, r25]
     clear r24 r25
     go_wp2_with fail
     exact ⟨rfl, _, rfl, HTT.out _ _ (rfl) (Only.refl _ _)⟩
    ·intro x wx ox hN TT HTT
     have r26 : x 9 = (.pointer (some ⟨g, o + i * 6, none⟩)) := hN.1 rfl
     clear hN
     unfold StepTo
     simp only [putAll, Act.put, List.setIfInBounds_toArray, List.set_cons_succ, List.set_cons_zero, r26]
     clear r26
     go_wp2_with fail
     exact ⟨rfl, _, rfl, HTT.out _ _ (rfl) (Only.refl _ _)⟩
    ·intro x wx ox hN TT HTT
     have r27 : x 10 = (.pointer (some ⟨g, o + i * 6 + 1, none⟩)) := hN.1 rfl
     clear hN
     unfold StepTo
     simp only [putAll, Act.put, List.setIfInBounds_toArray, List.set_cons_succ, List.set_cons_zero, r27]
     clear r27
     obtain ⟨m1, m2, m3, m4, m5, m6⟩ := HX.out wx ox
     go_wp2_with fail
     exact ⟨rfl, _, rfl, HTT.out _ _ (rfl) (Only.refl _ _)⟩
    ·intro x wx ox hN TT HTT
     have r28 : x 11 = (.agg #[.int .u8 (vk : Int), .int .i64 vn, .string ⟨vs.toArray⟩, .slice va vl vc, .slice va2 vl2 vc2]) := hN.1 rfl
     clear hN
     unfold StepTo
     simp only [putAll, Act.put, List.setIfInBounds_toArray, List.set_cons_succ, List.set_cons_zero, r28]
     clear r28
     have ht := HREC.out wx ox
     have HT := Lib.hid ht; clear ht
     go_wp2_with fail
     refine HT.out.mono ?_
     rintro e w6 ⟨rfl, o6⟩
     have O6 := Lib.hid o6; clear o6
     go_wp2_with fail
     exact ⟨rfl, _, rfl, HTT.out _ _ (rfl) (O6.out)⟩
    ·intro x wx ox hN TT HTT
     have r23 : x 6 = (.string (⟨nm.toArray⟩ ++ ⟨#[58, 32]⟩)) := hN.1 rfl
     have r29 : x 12 = (.string ⟨rv.toArray⟩) := hN.2.1 rfl
     clear hN
     unfold StepTo
     simp only [putAll, Act.put, List.setIfInBounds_toArray, List.set_cons_succ, List.set_cons_zero, r23, r29]
     clear r23 r29
     go_wp2_with fail
     exact ⟨rfl, _, rfl, HTT.out _ _ (rfl) (Only.refl _ _)⟩
    ·intro x wx ox hN TT HTT
     have r17 : x 0 = (.string (⟨acc.toArray⟩ ++ ⟨#[44, 32]⟩)) := hN.1 rfl
     have r30 : x 13 = (.string (⟨nm.toArray⟩ ++ ⟨#[58, 32]⟩ ++ ⟨rv.toArray⟩)) := hN.2.1 rfl
     clear hN
     unfold StepTo
     simp only [putAll, Act.put, List.setIfInBounds_toArray, List.set_cons_succ, List.set_cons_zero, r17, r30]
     clear r17 r30
     go_wp2_with fail
     exact ⟨rfl, _, rfl, HTT.out _ _ (rfl) (Only.refl _ _)⟩
    intro xz wxz oxz hN
    have r17 : xz 0 = (.string (⟨acc.toArray⟩ ++ ⟨#[44, 32]⟩)) := hN.1
    have r18 : xz 1 = (.slice (some ⟨g, o, none⟩) L c) := hN.2.1
    have r19 : xz 2 = (.int .i64 (i : Int)) := hN.2.2.1
    have r20 : xz 3 = (.pointer (some ⟨g, o + i * 6, none⟩)) := hN.2.2.2.1
    have r21 : xz 4 = (.pointer (some ⟨g, o + i * 6, none⟩)) := hN.2.2.2.2.1
    have r22 : xz 5 = (.string ⟨nm.toArray⟩) := hN.2.2.2.2.2.1
    have r23 : xz 6 = (.string (⟨nm.toArray⟩ ++ ⟨#[58, 32]⟩)) := hN.2.2.2.2.2.2.1
    have r24 : xz 7 = (.slice (some ⟨g, o, none⟩) L c) := hN.2.2.2.2.2.2.2.1
    have r25 : xz 8 = (.int .i64 (i : Int)) := hN.2.2.2.2.2.2.2.2.1
    have r26 : xz 9 = (.pointer (some ⟨g, o + i * 6, none⟩)) := hN.2.2.2.2.2.2.2.2.2.1
    have r27 : xz 10 = (.pointer (some ⟨g, o + i * 6 + 1, none⟩)) := hN.2.2.2.2.2.2.2.2.2.2.1
    have r28 : xz 11 = (.agg #[.int .u8 (vk : Int), .int .i64 vn, .string ⟨vs.toArray⟩, .slice va vl vc, .slice va2 vl2 vc2]) := hN.2.2.2.2.2.2.2.2.2.2.2.1
    have r29 : xz 12 = (.string ⟨rv.toArray⟩) := hN.2.2.2.2.2.2.2.2.2.2.2.2.1
    have r30 : xz 13 = (.string (⟨nm.toArray⟩ ++ ⟨#[58, 32]⟩ ++ ⟨rv.toArray⟩)) := hN.2.2.2.2.2.2.2.2.2.2.2.2.2.1
    have r31 : xz 14 = (.string (⟨acc.toArray⟩ ++ ⟨#[44, 32]⟩ ++ (⟨nm.toArray⟩ ++ ⟨#[58, 32]⟩ ++ ⟨rv.toArray⟩))) := hN.2.2.2.2.2.2.2.2.2.2.2.2.2.2.1
    clear hN
    simp only [putAll, Act.put, List.setIfInBounds_toArray, List.set_cons_succ, List.set_cons_zero, r17, r18, r19, r20, r21, r22, r23, r24, r25, r26, r27, r28, r29, r30, r31]
    clear r17 r18 r19 r20 r21 r22 r23 r24 r25 r26 r27 r28 r29 r30 r31
    have OZ := Lib.hid (HO.out.trans ((Only.refl _ wr).drew.trans oxz)); clear oxz
    go_wp2_with fail
    go_roundw
    case rel => exact ⟨i + 1, by simp, by omega, by rw [HA'.out, HNX.out]; simp only [← cat_list], OZ⟩
    case measure => simp [intOf]; omega
  ·have t1 : decide ((i : Int) < (L : Int)) = false := decide_eq_false (by omega)
   have hke : i = L := by omega
   subst hke
   have hend := HEND.out
   rw [HIL.out] at hend
   generalize parB [] its i = acc at *
   by_cases hz : 0 < i
   ·have t2 : decide ((i : Int) > 0) = true := decide_eq_true (by omega)
    rw [if_pos hz] at hend
    have HE := Lib.hid hend
    clear hend
    go_wp2_with fail
    go_ret
    rw [HE.out, ← cat_list]
    exact ⟨rfl, HO.out⟩
   ·have t2 : decide ((i : Int) > 0) = false := decide_eq_false (by omega)
    rw [if_neg hz, List.append_nil] at hend
    have HE := Lib.hid hend
    clear hend
    go_wp2_with fail
    go_ret
    rw [HE.out]
    exact ⟨rfl, HO.out⟩
end Go.Proofs.YtgephneppgcnlaaDoor
