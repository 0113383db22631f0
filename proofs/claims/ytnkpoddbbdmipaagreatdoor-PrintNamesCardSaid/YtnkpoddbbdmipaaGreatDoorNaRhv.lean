/- The document's reader: the definition of a variable. -/
import Derived.Test.YtnkpoddbbdmipaaGreatDoorNaLI
import Derived.Test.YtnkpoddbbdmipaaGreatDoorNaEnD
import Derived.Test.YtnkpoddbbdmipaaGreatDoorNaPrB
import Derived.Test.YtnkpoddbbdmipaaGreatDoorNaOwD
namespace Go.Proofs.YtnkpoddbbdmipaaGreatDoor
open Go Go.RowKit
set_option linter.unusedVariables false
set_option linter.unusedSimpArgs false

def vdF (v : Value) : Prop := ∃ (s0 : List UInt8) (s1 : List UInt8) (a1 : Option Addr) (l1 e1 : Nat) (b1 b2 : Bool) (k : Nat) (n : Int) (s2 : List UInt8) (a2 : Option Addr) (l2 e2 : Nat) (a3 : Option Addr) (l3 e3 : Nat), v = .agg #[.string ⟨s0.toArray⟩, .string ⟨s1.toArray⟩, .slice a1 l1 e1, .bool b1, .bool b2, .int .u8 (k : Int), .int .i64 n, .string ⟨s2.toArray⟩, .slice a2 l2 e2, .slice a3 l3 e3]
set_option maxRecDepth 100000 in
set_option maxHeartbeats 8000000 in
theorem fvar_any (b : Nat) (all : RL) (hdp : all.dp = 0) (σ0 : PR Unit) (w : World) (h : Rf w b all σ0) :
    Calls Tryz.prog 43 #[.pointer (some ⟨b, 0, none⟩)] w (FAns w b all σ0 (fun w' x v => aggP w.heap.size vdC w' x v) vdF varP) := by
  have hbl := h.lt
  obtain ⟨B, hB⟩ : ∃ B, w.heap.size = B := ⟨_, rfl⟩
  have hbB : b < B := by omega
  obtain ⟨total, htot⟩ : ∃ x, (σ0.bind fun _ => varP) = x := ⟨_, rfl⟩
  have hj := Jn.start σ0 varP
  rw [htot] at hj
  have HP : ∀ w' v, vdF v → Rf w' b all total.unit → (∀ x q, total = .ok x q → aggP B vdC w' x v) → Only (fun k => k = b) w w' → FAns w b all σ0 (fun w' x v => aggP w.heap.size vdC w' x v) vdF varP (.returned v) w' := fun w' v q1 q2 q3 q4 => ⟨v, rfl, q1, by rw [htot]; exact q2, fun x q e => by rw [hB]; exact q3 x q (by rw [← htot]; exact e), q4⟩
  unfold varP at hj
  obtain ⟨w0, hw0⟩ : ∃ w0, w.alloc (.cells #[.string ⟨#[]⟩, .string ⟨#[]⟩, .slice none 0 0, .bool false, .bool false, .int .u8 0, .int .i64 0, .string ⟨#[]⟩, .slice none 0 0, .slice none 0 0] 60) = w0 := ⟨_, rfl⟩
  have hr0 : w0.heap[B]? = some (.cells #[.string ⟨#[]⟩, .string ⟨#[]⟩, .slice none 0 0, .bool false, .bool false, .int .u8 0, .int .i64 0, .string ⟨#[]⟩, .slice none 0 0, .slice none 0 0] 60 (0, 0)) := by rw [← hw0, ← hB]; exact heap_new _ _
  have ho0 : Only (fun k => k = b) w w0 := by rw [← hw0]; exact (Only.refl _ w).alloc _
  have h0 : Rf w0 b all σ0 := by rw [← hw0]; exact h.still ((Only.refl (fun _ => False) w).alloc _)
  have HPP := Lib.hid HP; have HJ0 := Lib.hid hj; have HR0 := Lib.hid hr0; have HD0 := Lib.hid h0; have HO0 := Lib.hid ho0; have HW0 := Lib.hid hw0; have HBB := Lib.hid hB; have HWB := Lib.hid (show w.heap.size ≤ B by omega)
  have HAD := Lib.hid (show all.dp + 24 = 24 by omega); clear hdp
  clear HP hj hr0 h0 ho0 hw0 htot h
  generalize (FAns w b all σ0 (fun w' x v => aggP w.heap.size vdC w' x v) vdF varP) = Q at *
  clear hB hbl
  go_enter Tryz.func43, Tryz.ntmps43
  go_upto_region 1 with (fail)
  rw [HBB.out, HW0.out]
  clear HW0 HBB
  have J := Lib.hid (fMust_any b all σ0 [36] w0 HD0.out)
  go_wp2_with fail
  refine J.out.mono ?_
  rintro e w1 ⟨rfl, hd, o4⟩
  have hv : ∀ x q, (σ0.bind fun _ => wantP [36]) = .ok x q → True := fun _ _ _ => trivial
  obtain ⟨σ1, hσ⟩ : ∃ z, (σ0.bind fun _ => wantP [36]).unit = z := ⟨_, rfl⟩
  rw [hσ] at hd
  have hj := Jn.call (fun _ => True) HJ0.out hσ.symm hv
  have HJ1 := Lib.hid hj; have HD1 := Lib.hid hd
  clear hj hd hv hσ HJ0 J
  have hr1 := (o4.block B (Array.getElem?_eq_some_iff.1 HR0.out).1 (by omega)).trans HR0.out
  have HR1 := Lib.hid hr1
  have HO1 := Lib.hid (HO0.out.trans' o4 (fun q hq e => by exact e))
  clear hr1
  clear o4
  clear HR0 HO0 HD0
  have J := Lib.hid (fName_any b all σ1 w1 HD1.out)
  go_wp2_with fail
  refine J.out.mono ?_
  rintro e w2 ⟨v, rfl, ⟨s2, rfl⟩, hd, hv, o4⟩
  have hv : ∀ x q, (σ1.bind fun _ => nameP) = .ok x q → s2 = x := fun x q e => strF_inj (hv x q e)
  obtain ⟨σ2, hσ⟩ : ∃ z, (σ1.bind fun _ => nameP).unit = z := ⟨_, rfl⟩
  rw [hσ] at hd
  have hj := Jn.call (fun x => s2 = x) HJ1.out hσ.symm hv
  have HJ2 := Lib.hid hj; have HD2 := Lib.hid hd
  clear hj hd hv hσ HJ1 J
  have hr2 := (o4.block B (Array.getElem?_eq_some_iff.1 HR1.out).1 (by omega)).trans HR1.out
  have HR2 := Lib.hid hr2
  have HO2 := Lib.hid (HO1.out.trans' o4 (fun q hq e => by exact e))
  clear hr2
  clear o4
  clear HR1 HO1 HD1
  have hsz3 : B < w2.heap.size := (Array.getElem?_eq_some_iff.1 HR2.out).1
  obtain ⟨Y, hY⟩ : ∃ Y, w2.heap.size = Y := ⟨_, rfl⟩
  obtain ⟨w3, hw3⟩ : ∃ x, w2.alloc (.cells #[.string ⟨s2.toArray⟩, .string ⟨#[]⟩, .slice none 0 0, .bool false, .bool false, .int .u8 0, .int .i64 0, .string ⟨#[]⟩, .slice none 0 0, .slice none 0 0] 60) = x := ⟨_, rfl⟩
  have hy3 : w3.heap[Y]? = some (.cells #[.string ⟨s2.toArray⟩, .string ⟨#[]⟩, .slice none 0 0, .bool false, .bool false, .int .u8 0, .int .i64 0, .string ⟨#[]⟩, .slice none 0 0, .slice none 0 0] 60 (0, 0)) := by rw [← hw3, ← hY]; exact heap_new _ _
  have hr3 : w3.heap[B]? = some (.cells #[.string ⟨#[]⟩, .string ⟨#[]⟩, .slice none 0 0, .bool false, .bool false, .int .u8 0, .int .i64 0, .string ⟨#[]⟩, .slice none 0 0, .slice none 0 0] 60 (0, 0)) := by rw [← hw3]; exact heap_old HR2.out _
  have oa3 : Only (fun _ => False) w2 w3 := by rw [← hw3]; exact (Only.refl _ _).alloc _
  rw [hY] at hsz3
  have HY3 := Lib.hid hy3; have HR3 := Lib.hid hr3; have HD3 := Lib.hid (HD2.out.still oa3); have HO3 := Lib.hid (HO2.out.trans' oa3 (fun q _ e => e.elim)); have HW3 := Lib.hid hw3; have HYY := Lib.hid hY; have HJ3 := HJ2
  clear hy3 hr3 hw3 hY oa3 HR2 HD2 HO2 HJ2
  go_upto_region 3 with (fail)
  rw [HYY.out, HW3.out]
  clear HYY HW3
  have J := Lib.hid (fMust_any b all σ2 [58] w3 HD3.out)
  go_wp2_with fail
  refine J.out.mono ?_
  rintro e w4 ⟨rfl, hd, o4⟩
  have hv : ∀ x q, (σ2.bind fun _ => wantP [58]) = .ok x q → True := fun _ _ _ => trivial
  obtain ⟨σ4, hσ⟩ : ∃ z, (σ2.bind fun _ => wantP [58]).unit = z := ⟨_, rfl⟩
  rw [hσ] at hd
  have hj := Jn.call (fun _ => True) HJ3.out hσ.symm hv
  have HJ4 := Lib.hid hj; have HD4 := Lib.hid hd
  clear hj hd hv hσ HJ3 J
  have hr4 := (o4.block B (Array.getElem?_eq_some_iff.1 HR3.out).1 (by omega)).trans HR3.out
  have HR4 := Lib.hid hr4
  have hy4 := (o4.block Y (Array.getElem?_eq_some_iff.1 HY3.out).1 (by omega)).trans HY3.out
  have HY4 := Lib.hid hy4
  have HO4 := Lib.hid (HO3.out.trans' o4 (fun q hq e => by exact e))
  clear hr4 hy4
  clear o4
  clear HR3 HO3 HD3 HY3
  have J := Lib.hid (fType_any 24 b all σ4 w4 HAD.out HD4.out)
  go_wp2_with fail
  refine J.out.mono ?_
  rintro e w5 ⟨v, rfl, ⟨st, at1, lt1, et1, bt1, rfl⟩, hd, hv, o4⟩
  have hsy : Y < w4.heap.size := (Array.getElem?_eq_some_iff.1 HY4.out).1
  have hv : ∀ x q, (σ4.bind fun _ => typP 24) = .ok x q → CellsAt w5 (fun q => Y < q) (trC x) [.string ⟨st.toArray⟩, .slice at1 lt1 et1, .bool bt1] := fun x q e => CellsAt.weaken (fun q _ h => by have h : w4.heap.size ≤ q := h; show Y < q; omega) _ _ (aggF_cells (hv x q e))
  obtain ⟨σ5, hσ⟩ : ∃ z, (σ4.bind fun _ => typP 24).unit = z := ⟨_, rfl⟩
  rw [hσ] at hd
  have hj := Jn.call (fun x => CellsAt w5 (fun q => Y < q) (trC x) [.string ⟨st.toArray⟩, .slice at1 lt1 et1, .bool bt1]) HJ4.out hσ.symm hv
  have HJ5 := Lib.hid hj; have HD5 := Lib.hid hd
  clear hj hd hv hσ HJ4 J hsy
  have hr5 := (o4.block B (Array.getElem?_eq_some_iff.1 HR4.out).1 (by omega)).trans HR4.out
  have HR5 := Lib.hid hr5
  have hy5 := (o4.block Y (Array.getElem?_eq_some_iff.1 HY4.out).1 (by omega)).trans HY4.out
  have HY5 := Lib.hid hy5
  have HO5 := Lib.hid (HO4.out.trans' o4 (fun q hq e => by exact e))
  clear hr5 hy5
  have HC5_5 := Lib.hid (Only.refl (fun k => k ≤ Y) w5)
  clear o4
  clear HR4 HO4 HD4 HY4
  go_upto_region 5 with ((refine wpList_store_part (o := ⟨none, _, _, _, _, _⟩) rfl 41 (.tmp 13) (.tmp 12) (by rfl) Y 1 60 [.string ⟨s2.toArray⟩] [.string ⟨#[]⟩, .slice none 0 0, .bool false] [.string ⟨st.toArray⟩, .slice at1 lt1 et1, .bool bt1] [.bool false, .int .u8 0, .int .i64 0, .string ⟨#[]⟩, .slice none 0 0, .slice none 0 0] (by rfl) (by rfl) HY5.out (by rfl) (by rfl) (by kernel_rfl) (by intro u hu; simp at hu; rcases hu with rfl | rfl | rfl <;> rfl) ?_; intro w6 k1 k2))
  have hy6 : w6.heap[Y]? = some (.cells #[.string ⟨s2.toArray⟩, .string ⟨st.toArray⟩, .slice at1 lt1 et1, .bool bt1, .bool false, .int .u8 0, .int .i64 0, .string ⟨#[]⟩, .slice none 0 0, .slice none 0 0] 60 (0, 0)) := k1
  have HY6 := Lib.hid hy6
  have HD6 := Lib.hid (HD5.out.only k2 (fun k hk e => by omega)); have HJ6 := HJ5
  have hr6 := (k2.block B (Array.getElem?_eq_some_iff.1 HR5.out).1 (by omega)).trans HR5.out
  have HR6 := Lib.hid hr6
  have HC5_6 := Lib.hid (HC5_5.out.trans' k2 (fun q hq e => by have e : q = Y := e; show q ≤ Y; omega))
  have HO6 := Lib.hid (HO5.out.trans' k2 (fun q hq e => by have e : q = Y := e; have := HWB.out; omega))
  clear hr6
  clear hy6 k1 k2 HJ5
  clear HR5 HO5 HD5 HY5 HC5_5
  have J := Lib.hid (fEat_any b all σ5 [61] w6 HD6.out)
  unfold tookF at J
  obtain ⟨bb7, hb7⟩ : ∃ x, tst σ5 (isT [61]) = x := ⟨_, rfl⟩
  rw [hb7] at J
  have HBT := Lib.hid hb7; clear hb7
  cases bb7
  ·
    rw [if_neg (by decide)] at J
    go_wp2_with fail
    refine J.out.mono ?_
    rintro e w7 ⟨rfl, hd, o4⟩
    have HJ7 := Lib.hid (HJ6.out.no HBT.out)
    have HD7 := Lib.hid hd
    clear HJ6 hd HBT J
    have hr7 := (o4.block B (Array.getElem?_eq_some_iff.1 HR6.out).1 (by omega)).trans HR6.out
    have HR7 := Lib.hid hr7
    have hy7 := (o4.block Y (Array.getElem?_eq_some_iff.1 HY6.out).1 (by omega)).trans HY6.out
    have HY7 := Lib.hid hy7
    have HC5_7 := Lib.hid (HC5_6.out.trans' o4 (fun q hq e => by have e : q = b := e; show q ≤ Y; omega))
    have HO7 := Lib.hid (HO6.out.trans' o4 (fun q hq e => by exact e))
    clear hr7 hy7
    clear o4
    clear HR6 HO6 HD6 HY6 HC5_6
    obtain ⟨y0, y1, y2, y3, y4, y5, y6, y7, y8, y9, yz⟩ := boxN10 HY7.out
    go_wp2_with ((refine wpList_store_box (o := ⟨none, _, _, _, _, _⟩) rfl 60 (.tmp 2) (.tmp 20) (by rfl) B [.string ⟨#[]⟩, .string ⟨#[]⟩, .slice none 0 0, .bool false, .bool false, .int .u8 0, .int .i64 0, .string ⟨#[]⟩, .slice none 0 0, .slice none 0 0] [.string ⟨s2.toArray⟩, .string ⟨st.toArray⟩, .slice at1 lt1 et1, .bool bt1, .bool false, .int .u8 0, .int .i64 0, .string ⟨#[]⟩, .slice none 0 0, .slice none 0 0] (by rfl) (by rfl) HR7.out (by rfl) (by kernel_rfl) (by intro u hu; simp at hu; rcases hu with rfl | rfl | rfl | rfl | rfl | rfl | rfl | rfl | rfl | rfl <;> rfl) ?_; intro w9 k1 k2))
    clear y0 y1 y2 y3 y4 y5 y6 y7 y8 y9 yz
    obtain ⟨y0, y1, y2, y3, y4, y5, y6, y7, y8, y9, -⟩ := boxN10 k1
    obtain ⟨hdn, hxs⟩ := HJ7.out.done
    have hd9 : Rf w9 b all total.unit := by rw [← hdn]; exact HD7.out.only k2 (fun k hk e => by omega)
    have o5 := HC5_7.out.trans' k2 (fun q hq e => by have e : q = B := e; show q ≤ Y; omega)
    have hag : ∀ x q, total = .ok x q → aggP B vdC w9 x (.agg #[.string ⟨s2.toArray⟩, .string ⟨st.toArray⟩, .slice at1 lt1 et1, .bool bt1, .bool false, .int .u8 0, .int .i64 0, .string ⟨#[]⟩, .slice none 0 0, .slice none 0 0]) := fun x q e => by
      obtain ⟨⟨⟨⟨⟨u, u1⟩, n1⟩, u2⟩, t1⟩, rfl, ⟨⟨⟨⟨-, -⟩, k1⟩, -⟩, k3⟩⟩ := hxs x q e
      subst k1
      exact ⟨_, rfl, CellsAt.lit rfl (CellsAt.app (CellsAt.weaken (G' := fun q => B ≤ q) (fun q _ h => by have h : Y < q := h; show B ≤ q; omega) _ _ (CellsAt.only o5 (fun k hk e => by have hk : Y < k := hk; have e : k ≤ Y := e; omega) _ _ k3)) (CellsAt.lit rfl (leafC 0 0 [])))⟩
    exact bodyPost_ret (v := .agg #[.string ⟨s2.toArray⟩, .string ⟨st.toArray⟩, .slice at1 lt1 et1, .bool bt1, .bool false, .int .u8 0, .int .i64 0, .string ⟨#[]⟩, .slice none 0 0, .slice none 0 0]) (by simp [results, Tryz.results43, go_sem, y0, y1, y2, y3, y4, y5, y6, y7, y8, y9]) rfl (HPP.out w9 _ ⟨s2, st, at1, lt1, et1, bt1, false, 0, 0, [], none, 0, 0, none, 0, 0, rfl⟩ hd9 hag (HO7.out.trans' k2 (fun q hq e => by have := HWB.out; omega)))
  ·
    rw [if_pos rfl] at J
    go_wp2_with fail
    refine J.out.mono ?_
    rintro e w7 ⟨rfl, hd, o4⟩
    have HJ7 := Lib.hid (Jn.adv (F := fun (p : (((Unit × Unit) × List UInt8) × Unit) × TR) r => (valueP true 24 r).bind fun v r5 => .ok (VD.mk p.1.1.2 p.2 true v) r5) (HJ6.out.yes HBT.out))
    obtain ⟨σ7, hσ⟩ : ∃ z, adv σ5 = z := ⟨_, rfl⟩
    rw [hσ] at hd HJ7
    clear hσ
    have HD7 := Lib.hid hd
    clear HJ6 hd HBT J
    have hr7 := (o4.block B (Array.getElem?_eq_some_iff.1 HR6.out).1 (by omega)).trans HR6.out
    have HR7 := Lib.hid hr7
    have hy7 := (o4.block Y (Array.getElem?_eq_some_iff.1 HY6.out).1 (by omega)).trans HY6.out
    have HY7 := Lib.hid hy7
    have HC5_7 := Lib.hid (HC5_6.out.trans' o4 (fun q hq e => by have e : q = b := e; show q ≤ Y; omega))
    have HO7 := Lib.hid (HO6.out.trans' o4 (fun q hq e => by exact e))
    clear hr7 hy7
    clear o4
    clear HR6 HO6 HD6 HY6 HC5_6
    obtain ⟨y0, y1, y2, y3, y4, y5, y6, y7, y8, y9, yz⟩ := boxN10 HY7.out
    go_upto_region 7 with (fail)
    clear y0 y1 y2 y3 y4 y5 y6 y7 y8 y9 yz
    have hy8 := heap_set (o := 4) HY7.out (.bool true)
    have hy8 : (w7.setCell ⟨Y, 4, none⟩ (.bool true)).heap[Y]? = some (.cells #[.string ⟨s2.toArray⟩, .string ⟨st.toArray⟩, .slice at1 lt1 et1, .bool bt1, .bool true, .int .u8 0, .int .i64 0, .string ⟨#[]⟩, .slice none 0 0, .slice none 0 0] 60 (0, 0)) := by simpa using hy8
    have os8 : Only (fun k => k = Y) w7 (w7.setCell ⟨Y, 4, none⟩ (.bool true)) := (Only.refl (fun k => k = Y) _).setCell (p := ⟨Y, 4, none⟩) (.inl rfl) _
    obtain ⟨w8, hw8⟩ : ∃ x, w7.setCell ⟨Y, 4, none⟩ (.bool true) = x := ⟨_, rfl⟩
    rw [hw8] at hy8 os8
    rw [hw8]
    clear hw8
    have HY8 := Lib.hid hy8; have HD8 := Lib.hid (HD7.out.only os8 (fun k hk e => by omega)); have HJ8 := HJ7
    have hr8 := (os8.block B (Array.getElem?_eq_some_iff.1 HR7.out).1 (by omega)).trans HR7.out
    have HR8 := Lib.hid hr8
    have HC5_8 := Lib.hid (HC5_7.out.trans' os8 (fun q hq e => by have e : q = Y := e; show q ≤ Y; omega))
    have HO8 := Lib.hid (HO7.out.trans' os8 (fun q hq e => by have e : q = Y := e; have := HWB.out; omega))
    clear hr8
    clear hy8 os8 HJ7
    clear HR7 HO7 HD7 HY7 HC5_7
    have J := Lib.hid (fValue_any 24 true b all σ7 w8 HAD.out HD8.out)
    go_wp2_with fail
    refine J.out.mono ?_
    rintro e w9 ⟨v, rfl, ⟨kd, nm, sv, a1, l1, p1, a2, l2, p2, rfl⟩, hd, hv, o4⟩
    have hsy : Y < w8.heap.size := (Array.getElem?_eq_some_iff.1 HY8.out).1
    have hv : ∀ x q, (σ7.bind fun _ => valueP true 24) = .ok x q → CellsAt w9 (fun q => Y < q) (valC x) [.int .u8 (kd : Int), .int .i64 nm, .string ⟨sv.toArray⟩, .slice a1 l1 p1, .slice a2 l2 p2] := fun x q e => CellsAt.weaken (fun q _ h => by have h : w8.heap.size ≤ q := h; show Y < q; omega) _ _ (aggF_cells (hv x q e))
    obtain ⟨σ9, hσ⟩ : ∃ z, (σ7.bind fun _ => valueP true 24).unit = z := ⟨_, rfl⟩
    rw [hσ] at hd
    have hj := Jn.call (fun x => CellsAt w9 (fun q => Y < q) (valC x) [.int .u8 (kd : Int), .int .i64 nm, .string ⟨sv.toArray⟩, .slice a1 l1 p1, .slice a2 l2 p2]) HJ8.out hσ.symm hv
    have HJ9 := Lib.hid hj; have HD9 := Lib.hid hd
    clear hj hd hv hσ HJ8 J hsy
    have hr9 := (o4.block B (Array.getElem?_eq_some_iff.1 HR8.out).1 (by omega)).trans HR8.out
    have HR9 := Lib.hid hr9
    have hy9 := (o4.block Y (Array.getElem?_eq_some_iff.1 HY8.out).1 (by omega)).trans HY8.out
    have HY9 := Lib.hid hy9
    have HC5_9 := Lib.hid (HC5_8.out.trans' o4 (fun q hq e => by have e : q = b := e; show q ≤ Y; omega))
    have HO9 := Lib.hid (HO8.out.trans' o4 (fun q hq e => by exact e))
    clear hr9 hy9
    have HC9_9 := Lib.hid (Only.refl (fun k => k ≤ Y) w9)
    clear o4
    clear HR8 HO8 HD8 HY8 HC5_8
    go_upto_region 8 with ((refine wpList_store_part (o := ⟨none, _, _, _, _, _⟩) rfl 35 (.tmp 19) (.tmp 18) (by rfl) Y 5 60 [.string ⟨s2.toArray⟩, .string ⟨st.toArray⟩, .slice at1 lt1 et1, .bool bt1, .bool true] [.int .u8 0, .int .i64 0, .string ⟨#[]⟩, .slice none 0 0, .slice none 0 0] [.int .u8 (kd : Int), .int .i64 nm, .string ⟨sv.toArray⟩, .slice a1 l1 p1, .slice a2 l2 p2] [] (by rfl) (by rfl) HY9.out (by rfl) (by rfl) (by kernel_rfl) (by intro u hu; simp at hu; rcases hu with rfl | rfl | rfl | rfl | rfl <;> rfl) ?_; intro w10 k1 k2))
    have hy10 : w10.heap[Y]? = some (.cells #[.string ⟨s2.toArray⟩, .string ⟨st.toArray⟩, .slice at1 lt1 et1, .bool bt1, .bool true, .int .u8 (kd : Int), .int .i64 nm, .string ⟨sv.toArray⟩, .slice a1 l1 p1, .slice a2 l2 p2] 60 (0, 0)) := k1
    have HY10 := Lib.hid hy10
    have HD10 := Lib.hid (HD9.out.only k2 (fun k hk e => by omega)); have HJ10 := HJ9
    have hr10 := (k2.block B (Array.getElem?_eq_some_iff.1 HR9.out).1 (by omega)).trans HR9.out
    have HR10 := Lib.hid hr10
    have HC5_10 := Lib.hid (HC5_9.out.trans' k2 (fun q hq e => by have e : q = Y := e; show q ≤ Y; omega))
    have HC9_10 := Lib.hid (HC9_9.out.trans' k2 (fun q hq e => by have e : q = Y := e; show q ≤ Y; omega))
    have HO10 := Lib.hid (HO9.out.trans' k2 (fun q hq e => by have e : q = Y := e; have := HWB.out; omega))
    clear hr10
    clear hy10 k1 k2 HJ9
    clear HR9 HO9 HD9 HY9 HC5_9 HC9_9
    obtain ⟨y0, y1, y2, y3, y4, y5, y6, y7, y8, y9, yz⟩ := boxN10 HY10.out
    go_wp2_with ((refine wpList_store_box (o := ⟨none, _, _, _, _, _⟩) rfl 60 (.tmp 2) (.tmp 20) (by rfl) B [.string ⟨#[]⟩, .string ⟨#[]⟩, .slice none 0 0, .bool false, .bool false, .int .u8 0, .int .i64 0, .string ⟨#[]⟩, .slice none 0 0, .slice none 0 0] [.string ⟨s2.toArray⟩, .string ⟨st.toArray⟩, .slice at1 lt1 et1, .bool bt1, .bool true, .int .u8 (kd : Int), .int .i64 nm, .string ⟨sv.toArray⟩, .slice a1 l1 p1, .slice a2 l2 p2] (by rfl) (by rfl) HR10.out (by rfl) (by kernel_rfl) (by intro u hu; simp at hu; rcases hu with rfl | rfl | rfl | rfl | rfl | rfl | rfl | rfl | rfl | rfl <;> rfl) ?_; intro w9 k1 k2))
    clear y0 y1 y2 y3 y4 y5 y6 y7 y8 y9 yz
    obtain ⟨y0, y1, y2, y3, y4, y5, y6, y7, y8, y9, -⟩ := boxN10 k1
    obtain ⟨hdn, hxs⟩ := HJ10.out.done
    have hd9 : Rf w9 b all total.unit := by rw [← hdn]; exact HD10.out.only k2 (fun k hk e => by omega)
    have o5 := HC5_10.out.trans' k2 (fun q hq e => by have e : q = B := e; show q ≤ Y; omega)
    have o9 := HC9_10.out.trans' k2 (fun q hq e => by have e : q = B := e; show q ≤ Y; omega)
    have hag : ∀ x q, total = .ok x q → aggP B vdC w9 x (.agg #[.string ⟨s2.toArray⟩, .string ⟨st.toArray⟩, .slice at1 lt1 et1, .bool bt1, .bool true, .int .u8 (kd : Int), .int .i64 nm, .string ⟨sv.toArray⟩, .slice a1 l1 p1, .slice a2 l2 p2]) := fun x q e => by
      obtain ⟨⟨⟨⟨⟨⟨u, u1⟩, n1⟩, u2⟩, t1⟩, v1⟩, rfl, ⟨⟨⟨⟨⟨-, -⟩, k1⟩, -⟩, k3⟩, k4⟩⟩ := hxs x q e
      subst k1
      exact ⟨_, rfl, CellsAt.lit rfl (CellsAt.app (CellsAt.weaken (G' := fun q => B ≤ q) (fun q _ h => by have h : Y < q := h; show B ≤ q; omega) _ _ (CellsAt.only o5 (fun k hk e => by have hk : Y < k := hk; have e : k ≤ Y := e; omega) _ _ k3)) (CellsAt.lit rfl (CellsAt.weaken (G' := fun q => B ≤ q) (fun q _ h => by have h : Y < q := h; show B ≤ q; omega) _ _ (CellsAt.only o9 (fun k hk e => by have hk : Y < k := hk; have e : k ≤ Y := e; omega) _ _ k4))))⟩
    exact bodyPost_ret (v := .agg #[.string ⟨s2.toArray⟩, .string ⟨st.toArray⟩, .slice at1 lt1 et1, .bool bt1, .bool true, .int .u8 (kd : Int), .int .i64 nm, .string ⟨sv.toArray⟩, .slice a1 l1 p1, .slice a2 l2 p2]) (by simp [results, Tryz.results43, go_sem, y0, y1, y2, y3, y4, y5, y6, y7, y8, y9]) rfl (HPP.out w9 _ ⟨s2, st, at1, lt1, et1, bt1, true, kd, nm, sv, a1, l1, p1, a2, l2, p2, rfl⟩ hd9 hag (HO10.out.trans' k2 (fun q hq e => by have := HWB.out; omega)))
end Go.Proofs.YtnkpoddbbdmipaaGreatDoor
