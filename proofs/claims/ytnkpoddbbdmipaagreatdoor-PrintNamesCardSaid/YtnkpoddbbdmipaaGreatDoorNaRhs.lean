/- The document's reader: a selection. -/
import Derived.Test.YtnkpoddbbdmipaaGreatDoorNaRhd
namespace Go.Proofs.YtnkpoddbbdmipaaGreatDoor
open Go Go.RowKit
set_option linter.unusedVariables false
set_option linter.unusedSimpArgs false

def seF (v : Value) : Prop := ∃ (k : Nat) (s0 s1 s2 : List UInt8) (a1 : Option Addr) (l1 e1 : Nat) (a2 : Option Addr) (l2 e2 : Nat) (a3 : Option Addr) (l3 e3 : Nat), v = .agg #[.int .u8 (k : Int), .string ⟨s0.toArray⟩, .string ⟨s1.toArray⟩, .string ⟨s2.toArray⟩, .slice a1 l1 e1, .slice a2 l2 e2, .slice a3 l3 e3]
/-- Behind the names of a field. -/
def selQ (d : Nat) (g : List Tok → PR (List SL)) (al nm : List UInt8) (r : List Tok) : PR SL :=
 (argsP d r).bind fun gs r3 => (dirsP d (r3.length + 1) [] r3).bind fun ds r4 => if isS [123] r4 then (g r4).bind fun sub r5 => .ok (.mk 1 al nm [] gs ds sub) r5 else .ok (.mk 1 al nm [] gs ds []) r4
theorem selP_fun (d : Nat) (g : List Tok → PR (List SL)) : selP d g = fun r =>
  if isT wDots r then
   if isT wOn r.tail then (nameP r.tail.tail).bind fun s r1 => (dirsP d (r1.length + 1) [] r1).bind fun ds r2 => (g r2).bind fun sub r3 => .ok (.mk 3 [] [] s [] ds sub) r3
   else if isK 1 r.tail then (nameP r.tail).bind fun s r1 => (dirsP d (r1.length + 1) [] r1).bind fun ds r2 => .ok (.mk 2 [] s [] [] ds []) r2
   else (dirsP d (r.tail.length + 1) [] r.tail).bind fun ds r2 => (g r2).bind fun sub r3 => .ok (.mk 3 [] [] [] [] ds sub) r3
  else (nameP r).bind fun s r1 => if isT [58] r1 then (nameP r1.tail).bind fun s2 r2 => selQ d g s s2 r2 else selQ d g [] s r1 := by
 funext r
 unfold selP
 by_cases h : isT wDots r = true
 ·rw [if_pos h, if_pos h]
 ·rw [if_neg h, if_neg h]
  congr 1
  funext s r1
  have hq : ∀ (p : List UInt8 × List UInt8) (r2 : List Tok), ((argsP d r2).bind fun gs r3 => (dirsP d (r3.length + 1) [] r3).bind fun ds r4 => (if isS [123] r4 then g r4 else .ok [] r4).bind fun sub r5 => .ok (.mk 1 p.1 p.2 [] gs ds sub) r5) = selQ d g p.1 p.2 r2 := fun p r2 => by
   unfold selQ
   congr 1
   funext gs r3
   congr 1
   funext ds r4
   by_cases hb : isS [123] r4 = true
   ·rw [if_pos hb, if_pos hb]
   ·rw [if_neg hb, if_neg hb]; rfl
  by_cases hb : isT [58] r1 = true
  ·rw [if_pos hb, if_pos hb]
   cases hn : nameP r1.tail with
   | bad a e => rfl
   | ok s2 r2 => exact hq (s, s2) r2
  ·rw [if_neg hb, if_neg hb]; exact hq ([], s) r1
set_option maxRecDepth 100000 in
set_option maxHeartbeats 8000000 in
theorem fsel_any (d : Nat) (b : Nat) (all : RL) (hdp : all.dp + d = 24) (IH0 : ∀ (σ : PR Unit) (w : World), Rf w b all σ → Calls Tryz.prog 39 #[.pointer (some ⟨b, 0, none⟩)] w (FAns w b all σ (rowP w.heap.size 7 selC) rowF (setP d))) (σ0 : PR Unit) (w : World) (h : Rf w b all σ0) :
  Calls Tryz.prog 71 #[.pointer (some ⟨b, 0, none⟩)] w (FAns w b all σ0 (fun w' x v => aggP w.heap.size selC w' x v) seF (selP d (setP d))) := by
 have hbl := h.lt
 obtain ⟨B, hB⟩ : ∃ B, w.heap.size = B := ⟨_, rfl⟩
 have hbB : b < B := by omega
 obtain ⟨total, htot⟩ : ∃ x, (σ0.bind fun _ => (selP d (setP d))) = x := ⟨_, rfl⟩
 have hj := Jn.start σ0 (selP d (setP d))
 rw [htot] at hj
 have HP : ∀ w' v, seF v → Rf w' b all total.unit → (∀ x q, total = .ok x q → aggP B selC w' x v) → Only (fun k => k = b) w w' → FAns w b all σ0 (fun w' x v => aggP w.heap.size selC w' x v) seF (selP d (setP d)) (.returned v) w' := fun w' v q1 q2 q3 q4 => ⟨v, rfl, q1, by rw [htot]; exact q2, fun x q e => by rw [hB]; exact q3 x q (by rw [← htot]; exact e), q4⟩
 rw [selP_fun] at hj
 obtain ⟨w0, hw0⟩ : ∃ w0, w.alloc (.cells #[.int .u8 0, .string ⟨#[]⟩, .string ⟨#[]⟩, .string ⟨#[]⟩, .slice none 0 0, .slice none 0 0, .slice none 0 0] 53) = w0 := ⟨_, rfl⟩
 have hr0 : w0.heap[B]? = some (.cells #[.int .u8 0, .string ⟨#[]⟩, .string ⟨#[]⟩, .string ⟨#[]⟩, .slice none 0 0, .slice none 0 0, .slice none 0 0] 53 (0, 0)) := by rw [← hw0, ← hB]; exact heap_new _ _
 have ho0 : Only (fun k => k = b) w w0 := by rw [← hw0]; exact (Only.refl _ w).alloc _
 have h0 : Rf w0 b all σ0 := by rw [← hw0]; exact h.still ((Only.refl (fun _ => False) w).alloc _)
 have HPP := Lib.hid HP; have HJ0 := Lib.hid hj; have HR0 := Lib.hid hr0; have HD0 := Lib.hid h0; have HO0 := Lib.hid ho0; have HW0 := Lib.hid hw0; have HBB := Lib.hid hB; have HWB := Lib.hid (show w.heap.size ≤ B by omega)
 have HDP := Lib.hid hdp; have IH := Lib.hid IH0; clear hdp IH0
 clear HP hj hr0 h0 ho0 hw0 htot h
 generalize (FAns w b all σ0 (fun w' x v => aggP w.heap.size selC w' x v) seF (selP d (setP d))) = Q at *
 clear hB hbl
 go_enter Tryz.func71, Tryz.ntmps71
 go_upto_region 1 with (fail)
 rw [HBB.out, HW0.out]
 clear HW0 HBB
 have J := Lib.hid (fEat_any b all σ0 [46, 46, 46] w0 HD0.out)
 unfold tookF at J
 obtain ⟨bb1, hb1⟩ : ∃ x, tst σ0 (isT [46, 46, 46]) = x := ⟨_, rfl⟩
 rw [hb1] at J
 have HBT := Lib.hid hb1; clear hb1
 cases bb1
 ·
  rw [if_neg (by decide)] at J
  go_wp2_with fail
  refine J.out.mono ?_
  rintro e w1 ⟨rfl, hd, o4⟩
  have HJ1 := Lib.hid (HJ0.out.no HBT.out)
  have HD1 := Lib.hid hd
  clear HJ0 hd HBT J
  have hr1 := (o4.block B (Array.getElem?_eq_some_iff.1 HR0.out).1 (by omega)).trans HR0.out
  have HR1 := Lib.hid hr1
  have HO1 := Lib.hid (HO0.out.trans' o4 (fun q hq e => by exact e))
  clear hr1
  clear o4
  clear HR0 HO0 HD0
  have J := Lib.hid (fName_any b all σ0 w1 HD1.out)
  go_wp2_with fail
  refine J.out.mono ?_
  rintro e w2 ⟨v, rfl, ⟨s2, rfl⟩, hd, hv, o4⟩
  have hv : ∀ x q, (σ0.bind fun _ => nameP) = .ok x q → s2 = x := fun x q e => strF_inj (hv x q e)
  obtain ⟨σ2, hσ⟩ : ∃ z, (σ0.bind fun _ => nameP).unit = z := ⟨_, rfl⟩
  rw [hσ] at hd
  have hj := Jn.call (fun x => s2 = x) HJ1.out hσ.symm hv
  have HJ2 := Lib.hid hj; have HD2 := Lib.hid hd
  clear hj hd hv hσ HJ1 J
  have hr2 := (o4.block B (Array.getElem?_eq_some_iff.1 HR1.out).1 (by omega)).trans HR1.out
  have HR2 := Lib.hid hr2
  have HO2 := Lib.hid (HO1.out.trans' o4 (fun q hq e => by exact e))
  clear hr2
  clear o4
  clear HR1 HO1 HD1
  have hsz3 : B < w2.heap.size := (Array.getElem?_eq_some_iff.1 HR2.out).1
  obtain ⟨Y, hY⟩ : ∃ Y, w2.heap.size = Y := ⟨_, rfl⟩
  obtain ⟨w3, hw3⟩ : ∃ x, w2.alloc (.cells #[.int .u8 1, .string ⟨#[]⟩, .string ⟨s2.toArray⟩, .string ⟨#[]⟩, .slice none 0 0, .slice none 0 0, .slice none 0 0] 53) = x := ⟨_, rfl⟩
  have hy3 : w3.heap[Y]? = some (.cells #[.int .u8 1, .string ⟨#[]⟩, .string ⟨s2.toArray⟩, .string ⟨#[]⟩, .slice none 0 0, .slice none 0 0, .slice none 0 0] 53 (0, 0)) := by rw [← hw3, ← hY]; exact heap_new _ _
  have hr3 : w3.heap[B]? = some (.cells #[.int .u8 0, .string ⟨#[]⟩, .string ⟨#[]⟩, .string ⟨#[]⟩, .slice none 0 0, .slice none 0 0, .slice none 0 0] 53 (0, 0)) := by rw [← hw3]; exact heap_old HR2.out _
  have oa3 : Only (fun _ => False) w2 w3 := by rw [← hw3]; exact (Only.refl _ _).alloc _
  rw [hY] at hsz3
  have HY3 := Lib.hid hy3; have HR3 := Lib.hid hr3; have HD3 := Lib.hid (HD2.out.still oa3); have HO3 := Lib.hid (HO2.out.trans' oa3 (fun q _ e => e.elim)); have HW3 := Lib.hid hw3; have HYY := Lib.hid hY; have HJ3 := HJ2
  clear hy3 hr3 hw3 hY oa3 HR2 HD2 HO2 HJ2
  go_upto_region 3 with (fail)
  rw [HYY.out, HW3.out]
  clear HYY HW3
  have J := Lib.hid (fEat_any b all σ2 [58] w3 HD3.out)
  unfold tookF at J
  obtain ⟨bb4, hb4⟩ : ∃ x, tst σ2 (isT [58]) = x := ⟨_, rfl⟩
  rw [hb4] at J
  have HBT := Lib.hid hb4; clear hb4
  cases bb4
  ·
   rw [if_neg (by decide)] at J
   go_wp2_with fail
   refine J.out.mono ?_
   rintro e w4 ⟨rfl, hd, o4⟩
   have HJ4 := Lib.hid (HJ3.out.no HBT.out)
   have HD4 := Lib.hid hd
   clear HJ3 hd HBT J
   have hr4 := (o4.block B (Array.getElem?_eq_some_iff.1 HR3.out).1 (by omega)).trans HR3.out
   have HR4 := Lib.hid hr4
   have hy4 := (o4.block Y (Array.getElem?_eq_some_iff.1 HY3.out).1 (by omega)).trans HY3.out
   have HY4 := Lib.hid hy4
   have HO4 := Lib.hid (HO3.out.trans' o4 (fun q hq e => by exact e))
   clear hr4 hy4
   clear o4
   clear HR3 HO3 HD3 HY3
   have HJu := HJ4.out
   unfold selQ at HJu
   clear HJ4
   have HJ4 := Lib.hid HJu; clear HJu
   have J := Lib.hid (fargs_any d b all HDP.out σ2 w4 HD4.out)
   go_wp2_with fail
   refine J.out.mono ?_
   rintro e w5 ⟨v, rfl, ⟨ar5, lr5, cr5, rfl⟩, hd, hv, o4⟩
   have hsy : Y < w4.heap.size := (Array.getElem?_eq_some_iff.1 HY4.out).1
   have hv : ∀ x q, (σ2.bind fun _ => argsP d) = .ok x q → CellAt w5 (fun q => Y < q) (.row 6 (x.map argC)) (.slice ar5 lr5 cr5) := fun x q e => CellAt.weaken (fun q _ h => by have h : w4.heap.size ≤ q := h; show Y < q; omega) _ _ (hv x q e)
   obtain ⟨σ5, hσ⟩ : ∃ z, (σ2.bind fun _ => argsP d).unit = z := ⟨_, rfl⟩
   rw [hσ] at hd
   have hj := Jn.call (fun x => CellAt w5 (fun q => Y < q) (.row 6 (x.map argC)) (.slice ar5 lr5 cr5)) HJ4.out hσ.symm hv
   have HJ5 := Lib.hid hj; have HD5 := Lib.hid hd
   clear hj hd hv hσ HJ4 J hsy
   have hr5 := (o4.block B (Array.getElem?_eq_some_iff.1 HR4.out).1 (by omega)).trans HR4.out
   have HR5 := Lib.hid hr5
   have hy5 := (o4.block Y (Array.getElem?_eq_some_iff.1 HY4.out).1 (by omega)).trans HY4.out
   have HY5 := Lib.hid hy5
   have HO5 := Lib.hid (HO4.out.trans' o4 (fun q hq e => by exact e))
   clear hr5 hy5
   have HC5_5 := Lib.hid (Only.refl (fun k => k ≤ Y) w5)
   clear o4
   clear HR4 HO4 HD4 HY4
   obtain ⟨y0, y1, y2, y3, y4, y5, y6, yz⟩ := boxN7 HY5.out
   go_upto_region 7 with (fail)
   clear y0 y1 y2 y3 y4 y5 y6 yz
   have hy6 := heap_set (o := 4) HY5.out (.slice ar5 lr5 cr5)
   have hy6 : (w5.setCell ⟨Y, 4, none⟩ (.slice ar5 lr5 cr5)).heap[Y]? = some (.cells #[.int .u8 1, .string ⟨#[]⟩, .string ⟨s2.toArray⟩, .string ⟨#[]⟩, .slice ar5 lr5 cr5, .slice none 0 0, .slice none 0 0] 53 (0, 0)) := by simpa using hy6
   have os6 : Only (fun k => k = Y) w5 (w5.setCell ⟨Y, 4, none⟩ (.slice ar5 lr5 cr5)) := (Only.refl (fun k => k = Y) _).setCell (p := ⟨Y, 4, none⟩) (.inl rfl) _
   obtain ⟨w6, hw6⟩ : ∃ x, w5.setCell ⟨Y, 4, none⟩ (.slice ar5 lr5 cr5) = x := ⟨_, rfl⟩
   rw [hw6] at hy6 os6
   rw [hw6]
   clear hw6
   have HY6 := Lib.hid hy6; have HD6 := Lib.hid (HD5.out.only os6 (fun k hk e => by omega)); have HJ6 := HJ5
   have hr6 := (os6.block B (Array.getElem?_eq_some_iff.1 HR5.out).1 (by omega)).trans HR5.out
   have HR6 := Lib.hid hr6
   have HC5_6 := Lib.hid (HC5_5.out.trans' os6 (fun q hq e => by have e : q = Y := e; show q ≤ Y; omega))
   have HO6 := Lib.hid (HO5.out.trans' os6 (fun q hq e => by have e : q = Y := e; have := HWB.out; omega))
   clear hr6
   clear hy6 os6 HJ5
   clear HR5 HO5 HD5 HY5 HC5_5
   have J := Lib.hid (fdirs_any d b all HDP.out σ5 w6 HD6.out)
   go_wp2_with fail
   refine J.out.mono ?_
   rintro e w7 ⟨v, rfl, ⟨ar7, lr7, cr7, rfl⟩, hd, hv, o4⟩
   have hsy : Y < w6.heap.size := (Array.getElem?_eq_some_iff.1 HY6.out).1
   have hv : ∀ x q, (σ5.bind fun _ => (fun r => dirsP d (r.length + 1) [] r)) = .ok x q → CellAt w7 (fun q => Y < q) (.row 2 (x.map dirC)) (.slice ar7 lr7 cr7) := fun x q e => CellAt.weaken (fun q _ h => by have h : w6.heap.size ≤ q := h; show Y < q; omega) _ _ (hv x q e)
   obtain ⟨σ7, hσ⟩ : ∃ z, (σ5.bind fun _ => (fun r => dirsP d (r.length + 1) [] r)).unit = z := ⟨_, rfl⟩
   rw [hσ] at hd
   have hj := Jn.call (fun x => CellAt w7 (fun q => Y < q) (.row 2 (x.map dirC)) (.slice ar7 lr7 cr7)) HJ6.out hσ.symm hv
   have HJ7 := Lib.hid hj; have HD7 := Lib.hid hd
   clear hj hd hv hσ HJ6 J hsy
   have hr7 := (o4.block B (Array.getElem?_eq_some_iff.1 HR6.out).1 (by omega)).trans HR6.out
   have HR7 := Lib.hid hr7
   have hy7 := (o4.block Y (Array.getElem?_eq_some_iff.1 HY6.out).1 (by omega)).trans HY6.out
   have HY7 := Lib.hid hy7
   have HC5_7 := Lib.hid (HC5_6.out.trans' o4 (fun q hq e => by have e : q = b := e; show q ≤ Y; omega))
   have HO7 := Lib.hid (HO6.out.trans' o4 (fun q hq e => by exact e))
   clear hr7 hy7
   have HC7_7 := Lib.hid (Only.refl (fun k => k ≤ Y) w7)
   clear o4
   clear HR6 HO6 HD6 HY6 HC5_6
   obtain ⟨y0, y1, y2, y3, y4, y5, y6, yz⟩ := boxN7 HY7.out
   go_upto_region 8 with (fail)
   clear y0 y1 y2 y3 y4 y5 y6 yz
   have hy8 := heap_set (o := 5) HY7.out (.slice ar7 lr7 cr7)
   have hy8 : (w7.setCell ⟨Y, 5, none⟩ (.slice ar7 lr7 cr7)).heap[Y]? = some (.cells #[.int .u8 1, .string ⟨#[]⟩, .string ⟨s2.toArray⟩, .string ⟨#[]⟩, .slice ar5 lr5 cr5, .slice ar7 lr7 cr7, .slice none 0 0] 53 (0, 0)) := by simpa using hy8
   have os8 : Only (fun k => k = Y) w7 (w7.setCell ⟨Y, 5, none⟩ (.slice ar7 lr7 cr7)) := (Only.refl (fun k => k = Y) _).setCell (p := ⟨Y, 5, none⟩) (.inl rfl) _
   obtain ⟨w8, hw8⟩ : ∃ x, w7.setCell ⟨Y, 5, none⟩ (.slice ar7 lr7 cr7) = x := ⟨_, rfl⟩
   rw [hw8] at hy8 os8
   rw [hw8]
   clear hw8
   have HY8 := Lib.hid hy8; have HD8 := Lib.hid (HD7.out.only os8 (fun k hk e => by omega)); have HJ8 := HJ7
   have hr8 := (os8.block B (Array.getElem?_eq_some_iff.1 HR7.out).1 (by omega)).trans HR7.out
   have HR8 := Lib.hid hr8
   have HC5_8 := Lib.hid (HC5_7.out.trans' os8 (fun q hq e => by have e : q = Y := e; show q ≤ Y; omega))
   have HC7_8 := Lib.hid (HC7_7.out.trans' os8 (fun q hq e => by have e : q = Y := e; show q ≤ Y; omega))
   have HO8 := Lib.hid (HO7.out.trans' os8 (fun q hq e => by have e : q = Y := e; have := HWB.out; omega))
   clear hr8
   clear hy8 os8 HJ7
   clear HR7 HO7 HD7 HY7 HC5_7 HC7_7
   have J := Lib.hid (fSign_any b all σ7 [123] w8 HD8.out)
   obtain ⟨bb9, hb9⟩ : ∃ x, tst σ7 (isS [123]) = x := ⟨_, rfl⟩
   rw [hb9] at J
   have HBT := Lib.hid hb9; clear hb9
   cases bb9
   ·
    go_wp2_with fail
    refine J.out.mono ?_
    rintro e w9 ⟨rfl, o4⟩
    have HJ9 := Lib.hid (HJ8.out.no HBT.out)
    have HD9 := Lib.hid (HD8.out.still o4)
    clear HJ8 HBT J
    have hr9 := (o4.block B (Array.getElem?_eq_some_iff.1 HR8.out).1 (fun h => h)).trans HR8.out
    have HR9 := Lib.hid hr9
    have hy9 := (o4.block Y (Array.getElem?_eq_some_iff.1 HY8.out).1 (fun h => h)).trans HY8.out
    have HY9 := Lib.hid hy9
    have HC5_9 := Lib.hid (HC5_8.out.trans' o4 (fun q hq e => by exact e.elim))
    have HC7_9 := Lib.hid (HC7_8.out.trans' o4 (fun q hq e => by exact e.elim))
    have HO9 := Lib.hid (HO8.out.trans' o4 (fun q hq e => by exact e.elim))
    clear hr9 hy9
    clear o4
    clear HR8 HO8 HD8 HY8 HC5_8 HC7_8
    obtain ⟨y0, y1, y2, y3, y4, y5, y6, yz⟩ := boxN7 HY9.out
    go_wp2_with ((refine wpList_store_box (o := ⟨none, _, _, _, _, _⟩) rfl 53 (.tmp 2) (.tmp 30) (by rfl) B [.int .u8 0, .string ⟨#[]⟩, .string ⟨#[]⟩, .string ⟨#[]⟩, .slice none 0 0, .slice none 0 0, .slice none 0 0] [.int .u8 1, .string ⟨#[]⟩, .string ⟨s2.toArray⟩, .string ⟨#[]⟩, .slice ar5 lr5 cr5, .slice ar7 lr7 cr7, .slice none 0 0] (by rfl) (by rfl) HR9.out (by rfl) (by kernel_rfl) (by intro u hu; simp at hu; rcases hu with rfl | rfl | rfl | rfl | rfl | rfl | rfl <;> rfl) ?_; intro w9 k1 k2))
    clear y0 y1 y2 y3 y4 y5 y6 yz
    obtain ⟨y0, y1, y2, y3, y4, y5, y6, -⟩ := boxN7 k1
    obtain ⟨hdn, hxs⟩ := HJ9.out.done
    have hd9 : Rf w9 b all total.unit := by rw [← hdn]; exact HD9.out.only k2 (fun k hk e => by omega)
    have o5 := HC5_9.out.trans' k2 (fun q hq e => by have e : q = B := e; show q ≤ Y; omega)
    have o7 := HC7_9.out.trans' k2 (fun q hq e => by have e : q = B := e; show q ≤ Y; omega)
    have hag : ∀ x q, total = .ok x q → aggP B selC w9 x (.agg #[.int .u8 1, .string ⟨#[]⟩, .string ⟨s2.toArray⟩, .string ⟨#[]⟩, .slice ar5 lr5 cr5, .slice ar7 lr7 cr7, .slice none 0 0]) := fun x q e => by
     obtain ⟨⟨⟨⟨u, n1⟩, x3⟩, x4⟩, rfl, ⟨⟨⟨-, k1⟩, k3⟩, k4⟩⟩ := hxs x q e
     subst k1
     exact ⟨_, rfl, CellsAt.lit rfl (CellsAt.lit rfl (CellsAt.lit rfl (CellsAt.lit rfl (CellsAt.cons (CellAt.weaken (G' := fun q => B ≤ q) (fun q _ h => by have h : Y < q := h; show B ≤ q; omega) _ _ (CellAt.only o5 (fun k hk e => by have hk : Y < k := hk; have e : k ≤ Y := e; omega) _ _ k3)) (CellsAt.cons (CellAt.weaken (G' := fun q => B ≤ q) (fun q _ h => by have h : Y < q := h; show B ≤ q; omega) _ _ (CellAt.only o7 (fun k hk e => by have hk : Y < k := hk; have e : k ≤ Y := e; omega) _ _ k4)) (CellsAt.cons (by rw [selCs]; exact CellAt.nilRow _ _ _) (CellsAt.nil _ _)))))))⟩
    exact bodyPost_ret (v := .agg #[.int .u8 1, .string ⟨#[]⟩, .string ⟨s2.toArray⟩, .string ⟨#[]⟩, .slice ar5 lr5 cr5, .slice ar7 lr7 cr7, .slice none 0 0]) (by simp [results, Tryz.results71, go_sem, y0, y1, y2, y3, y4, y5, y6]) rfl (HPP.out w9 _ ⟨1, [], s2, [], ar5, lr5, cr5, ar7, lr7, cr7, none, 0, 0, rfl⟩ hd9 hag (HO9.out.trans' k2 (fun q hq e => by have := HWB.out; omega)))
   ·
    go_wp2_with fail
    refine J.out.mono ?_
    rintro e w9 ⟨rfl, o4⟩
    have HJ9 := Lib.hid (HJ8.out.yes HBT.out)
    have HD9 := Lib.hid (HD8.out.still o4)
    clear HJ8 HBT J
    have hr9 := (o4.block B (Array.getElem?_eq_some_iff.1 HR8.out).1 (fun h => h)).trans HR8.out
    have HR9 := Lib.hid hr9
    have hy9 := (o4.block Y (Array.getElem?_eq_some_iff.1 HY8.out).1 (fun h => h)).trans HY8.out
    have HY9 := Lib.hid hy9
    have HC5_9 := Lib.hid (HC5_8.out.trans' o4 (fun q hq e => by exact e.elim))
    have HC7_9 := Lib.hid (HC7_8.out.trans' o4 (fun q hq e => by exact e.elim))
    have HO9 := Lib.hid (HO8.out.trans' o4 (fun q hq e => by exact e.elim))
    clear hr9 hy9
    clear o4
    clear HR8 HO8 HD8 HY8 HC5_8 HC7_8
    have J := Lib.hid (IH.out σ7 w9 HD9.out)
    go_wp2_with fail
    refine J.out.mono ?_
    rintro e w10 ⟨v, rfl, ⟨ar10, lr10, cr10, rfl⟩, hd, hv, o4⟩
    have hsy : Y < w9.heap.size := (Array.getElem?_eq_some_iff.1 HY9.out).1
    have hv : ∀ x q, (σ7.bind fun _ => (setP d)) = .ok x q → CellAt w10 (fun q => Y < q) (.row 7 (x.map selC)) (.slice ar10 lr10 cr10) := fun x q e => CellAt.weaken (fun q _ h => by have h : w9.heap.size ≤ q := h; show Y < q; omega) _ _ (hv x q e)
    obtain ⟨σ10, hσ⟩ : ∃ z, (σ7.bind fun _ => (setP d)).unit = z := ⟨_, rfl⟩
    rw [hσ] at hd
    have hj := Jn.call (fun x => CellAt w10 (fun q => Y < q) (.row 7 (x.map selC)) (.slice ar10 lr10 cr10)) HJ9.out hσ.symm hv
    have HJ10 := Lib.hid hj; have HD10 := Lib.hid hd
    clear hj hd hv hσ HJ9 J hsy
    have hr10 := (o4.block B (Array.getElem?_eq_some_iff.1 HR9.out).1 (by omega)).trans HR9.out
    have HR10 := Lib.hid hr10
    have hy10 := (o4.block Y (Array.getElem?_eq_some_iff.1 HY9.out).1 (by omega)).trans HY9.out
    have HY10 := Lib.hid hy10
    have HC5_10 := Lib.hid (HC5_9.out.trans' o4 (fun q hq e => by have e : q = b := e; show q ≤ Y; omega))
    have HC7_10 := Lib.hid (HC7_9.out.trans' o4 (fun q hq e => by have e : q = b := e; show q ≤ Y; omega))
    have HO10 := Lib.hid (HO9.out.trans' o4 (fun q hq e => by exact e))
    clear hr10 hy10
    have HC10_10 := Lib.hid (Only.refl (fun k => k ≤ Y) w10)
    clear o4
    clear HR9 HO9 HD9 HY9 HC5_9 HC7_9
    obtain ⟨y0, y1, y2, y3, y4, y5, y6, yz⟩ := boxN7 HY10.out
    go_upto_region 10 with (fail)
    clear y0 y1 y2 y3 y4 y5 y6 yz
    have hy11 := heap_set (o := 6) HY10.out (.slice ar10 lr10 cr10)
    have hy11 : (w10.setCell ⟨Y, 6, none⟩ (.slice ar10 lr10 cr10)).heap[Y]? = some (.cells #[.int .u8 1, .string ⟨#[]⟩, .string ⟨s2.toArray⟩, .string ⟨#[]⟩, .slice ar5 lr5 cr5, .slice ar7 lr7 cr7, .slice ar10 lr10 cr10] 53 (0, 0)) := by simpa using hy11
    have os11 : Only (fun k => k = Y) w10 (w10.setCell ⟨Y, 6, none⟩ (.slice ar10 lr10 cr10)) := (Only.refl (fun k => k = Y) _).setCell (p := ⟨Y, 6, none⟩) (.inl rfl) _
    obtain ⟨w11, hw11⟩ : ∃ x, w10.setCell ⟨Y, 6, none⟩ (.slice ar10 lr10 cr10) = x := ⟨_, rfl⟩
    rw [hw11] at hy11 os11
    rw [hw11]
    clear hw11
    have HY11 := Lib.hid hy11; have HD11 := Lib.hid (HD10.out.only os11 (fun k hk e => by omega)); have HJ11 := HJ10
    have hr11 := (os11.block B (Array.getElem?_eq_some_iff.1 HR10.out).1 (by omega)).trans HR10.out
    have HR11 := Lib.hid hr11
    have HC5_11 := Lib.hid (HC5_10.out.trans' os11 (fun q hq e => by have e : q = Y := e; show q ≤ Y; omega))
    have HC7_11 := Lib.hid (HC7_10.out.trans' os11 (fun q hq e => by have e : q = Y := e; show q ≤ Y; omega))
    have HC10_11 := Lib.hid (HC10_10.out.trans' os11 (fun q hq e => by have e : q = Y := e; show q ≤ Y; omega))
    have HO11 := Lib.hid (HO10.out.trans' os11 (fun q hq e => by have e : q = Y := e; have := HWB.out; omega))
    clear hr11
    clear hy11 os11 HJ10
    clear HR10 HO10 HD10 HY10 HC5_10 HC7_10 HC10_10
    obtain ⟨y0, y1, y2, y3, y4, y5, y6, yz⟩ := boxN7 HY11.out
    go_wp2_with ((refine wpList_store_box (o := ⟨none, _, _, _, _, _⟩) rfl 53 (.tmp 2) (.tmp 30) (by rfl) B [.int .u8 0, .string ⟨#[]⟩, .string ⟨#[]⟩, .string ⟨#[]⟩, .slice none 0 0, .slice none 0 0, .slice none 0 0] [.int .u8 1, .string ⟨#[]⟩, .string ⟨s2.toArray⟩, .string ⟨#[]⟩, .slice ar5 lr5 cr5, .slice ar7 lr7 cr7, .slice ar10 lr10 cr10] (by rfl) (by rfl) HR11.out (by rfl) (by kernel_rfl) (by intro u hu; simp at hu; rcases hu with rfl | rfl | rfl | rfl | rfl | rfl | rfl <;> rfl) ?_; intro w9 k1 k2))
    clear y0 y1 y2 y3 y4 y5 y6 yz
    obtain ⟨y0, y1, y2, y3, y4, y5, y6, -⟩ := boxN7 k1
    obtain ⟨hdn, hxs⟩ := HJ11.out.done
    have hd9 : Rf w9 b all total.unit := by rw [← hdn]; exact HD11.out.only k2 (fun k hk e => by omega)
    have o5 := HC5_11.out.trans' k2 (fun q hq e => by have e : q = B := e; show q ≤ Y; omega)
    have o7 := HC7_11.out.trans' k2 (fun q hq e => by have e : q = B := e; show q ≤ Y; omega)
    have o10 := HC10_11.out.trans' k2 (fun q hq e => by have e : q = B := e; show q ≤ Y; omega)
    have hag : ∀ x q, total = .ok x q → aggP B selC w9 x (.agg #[.int .u8 1, .string ⟨#[]⟩, .string ⟨s2.toArray⟩, .string ⟨#[]⟩, .slice ar5 lr5 cr5, .slice ar7 lr7 cr7, .slice ar10 lr10 cr10]) := fun x q e => by
     obtain ⟨⟨⟨⟨⟨u, n1⟩, x3⟩, x4⟩, x5⟩, rfl, ⟨⟨⟨⟨-, k1⟩, k3⟩, k4⟩, k5⟩⟩ := hxs x q e
     subst k1
     exact ⟨_, rfl, CellsAt.lit rfl (CellsAt.lit rfl (CellsAt.lit rfl (CellsAt.lit rfl (CellsAt.cons (CellAt.weaken (G' := fun q => B ≤ q) (fun q _ h => by have h : Y < q := h; show B ≤ q; omega) _ _ (CellAt.only o5 (fun k hk e => by have hk : Y < k := hk; have e : k ≤ Y := e; omega) _ _ k3)) (CellsAt.cons (CellAt.weaken (G' := fun q => B ≤ q) (fun q _ h => by have h : Y < q := h; show B ≤ q; omega) _ _ (CellAt.only o7 (fun k hk e => by have hk : Y < k := hk; have e : k ≤ Y := e; omega) _ _ k4)) (CellsAt.cons (by rw [selCs_map]; exact CellAt.weaken (G' := fun q => B ≤ q) (fun q _ h => by have h : Y < q := h; show B ≤ q; omega) _ _ (CellAt.only o10 (fun k hk e => by have hk : Y < k := hk; have e : k ≤ Y := e; omega) _ _ k5)) (CellsAt.nil _ _)))))))⟩
    exact bodyPost_ret (v := .agg #[.int .u8 1, .string ⟨#[]⟩, .string ⟨s2.toArray⟩, .string ⟨#[]⟩, .slice ar5 lr5 cr5, .slice ar7 lr7 cr7, .slice ar10 lr10 cr10]) (by simp [results, Tryz.results71, go_sem, y0, y1, y2, y3, y4, y5, y6]) rfl (HPP.out w9 _ ⟨1, [], s2, [], ar5, lr5, cr5, ar7, lr7, cr7, ar10, lr10, cr10, rfl⟩ hd9 hag (HO11.out.trans' k2 (fun q hq e => by have := HWB.out; omega)))
  ·
   rw [if_pos rfl] at J
   go_wp2_with fail
   refine J.out.mono ?_
   rintro e w4 ⟨rfl, hd, o4⟩
   have HJ4 := Lib.hid (Jn.adv (F := fun (p : Unit × List UInt8) r => (nameP r).bind fun s2 r2 => selQ d (setP d) p.2 s2 r2) (HJ3.out.yes HBT.out))
   obtain ⟨σ4, hσ⟩ : ∃ z, adv σ2 = z := ⟨_, rfl⟩
   rw [hσ] at hd HJ4
   clear hσ
   have HD4 := Lib.hid hd
   clear HJ3 hd HBT J
   have hr4 := (o4.block B (Array.getElem?_eq_some_iff.1 HR3.out).1 (by omega)).trans HR3.out
   have HR4 := Lib.hid hr4
   have hy4 := (o4.block Y (Array.getElem?_eq_some_iff.1 HY3.out).1 (by omega)).trans HY3.out
   have HY4 := Lib.hid hy4
   have HO4 := Lib.hid (HO3.out.trans' o4 (fun q hq e => by exact e))
   clear hr4 hy4
   clear o4
   clear HR3 HO3 HD3 HY3
   obtain ⟨y0, y1, y2, y3, y4, y5, y6, yz⟩ := boxN7 HY4.out
   go_upto_region 5 with (fail)
   clear y0 y1 y2 y3 y4 y5 y6 yz
   have hy5 := heap_set (o := 1) HY4.out (.string ⟨s2.toArray⟩)
   have hy5 : (w4.setCell ⟨Y, 1, none⟩ (.string ⟨s2.toArray⟩)).heap[Y]? = some (.cells #[.int .u8 1, .string ⟨s2.toArray⟩, .string ⟨s2.toArray⟩, .string ⟨#[]⟩, .slice none 0 0, .slice none 0 0, .slice none 0 0] 53 (0, 0)) := by simpa using hy5
   have os5 : Only (fun k => k = Y) w4 (w4.setCell ⟨Y, 1, none⟩ (.string ⟨s2.toArray⟩)) := (Only.refl (fun k => k = Y) _).setCell (p := ⟨Y, 1, none⟩) (.inl rfl) _
   obtain ⟨w5, hw5⟩ : ∃ x, w4.setCell ⟨Y, 1, none⟩ (.string ⟨s2.toArray⟩) = x := ⟨_, rfl⟩
   rw [hw5] at hy5 os5
   rw [hw5]
   clear hw5
   have HY5 := Lib.hid hy5; have HD5 := Lib.hid (HD4.out.only os5 (fun k hk e => by omega)); have HJ5 := HJ4
   have hr5 := (os5.block B (Array.getElem?_eq_some_iff.1 HR4.out).1 (by omega)).trans HR4.out
   have HR5 := Lib.hid hr5
   have HO5 := Lib.hid (HO4.out.trans' os5 (fun q hq e => by have e : q = Y := e; have := HWB.out; omega))
   clear hr5
   clear hy5 os5 HJ4
   clear HR4 HO4 HD4 HY4
   have J := Lib.hid (fName_any b all σ4 w5 HD5.out)
   go_wp2_with fail
   refine J.out.mono ?_
   rintro e w6 ⟨v, rfl, ⟨s6, rfl⟩, hd, hv, o4⟩
   have hv : ∀ x q, (σ4.bind fun _ => nameP) = .ok x q → s6 = x := fun x q e => strF_inj (hv x q e)
   obtain ⟨σ6, hσ⟩ : ∃ z, (σ4.bind fun _ => nameP).unit = z := ⟨_, rfl⟩
   rw [hσ] at hd
   have hj := Jn.call (fun x => s6 = x) HJ5.out hσ.symm hv
   have HJ6 := Lib.hid hj; have HD6 := Lib.hid hd
   clear hj hd hv hσ HJ5 J
   have hr6 := (o4.block B (Array.getElem?_eq_some_iff.1 HR5.out).1 (by omega)).trans HR5.out
   have HR6 := Lib.hid hr6
   have hy6 := (o4.block Y (Array.getElem?_eq_some_iff.1 HY5.out).1 (by omega)).trans HY5.out
   have HY6 := Lib.hid hy6
   have HO6 := Lib.hid (HO5.out.trans' o4 (fun q hq e => by exact e))
   clear hr6 hy6
   clear o4
   clear HR5 HO5 HD5 HY5
   obtain ⟨y0, y1, y2, y3, y4, y5, y6, yz⟩ := boxN7 HY6.out
   go_upto_region 6 with (fail)
   clear y0 y1 y2 y3 y4 y5 y6 yz
   have hy7 := heap_set (o := 2) HY6.out (.string ⟨s6.toArray⟩)
   have hy7 : (w6.setCell ⟨Y, 2, none⟩ (.string ⟨s6.toArray⟩)).heap[Y]? = some (.cells #[.int .u8 1, .string ⟨s2.toArray⟩, .string ⟨s6.toArray⟩, .string ⟨#[]⟩, .slice none 0 0, .slice none 0 0, .slice none 0 0] 53 (0, 0)) := by simpa using hy7
   have os7 : Only (fun k => k = Y) w6 (w6.setCell ⟨Y, 2, none⟩ (.string ⟨s6.toArray⟩)) := (Only.refl (fun k => k = Y) _).setCell (p := ⟨Y, 2, none⟩) (.inl rfl) _
   obtain ⟨w7, hw7⟩ : ∃ x, w6.setCell ⟨Y, 2, none⟩ (.string ⟨s6.toArray⟩) = x := ⟨_, rfl⟩
   rw [hw7] at hy7 os7
   rw [hw7]
   clear hw7
   have HY7 := Lib.hid hy7; have HD7 := Lib.hid (HD6.out.only os7 (fun k hk e => by omega)); have HJ7 := HJ6
   have hr7 := (os7.block B (Array.getElem?_eq_some_iff.1 HR6.out).1 (by omega)).trans HR6.out
   have HR7 := Lib.hid hr7
   have HO7 := Lib.hid (HO6.out.trans' os7 (fun q hq e => by have e : q = Y := e; have := HWB.out; omega))
   clear hr7
   clear hy7 os7 HJ6
   clear HR6 HO6 HD6 HY6
   have HJu := HJ7.out
   unfold selQ at HJu
   clear HJ7
   have HJ7 := Lib.hid HJu; clear HJu
   have J := Lib.hid (fargs_any d b all HDP.out σ6 w7 HD7.out)
   go_wp2_with fail
   refine J.out.mono ?_
   rintro e w8 ⟨v, rfl, ⟨ar8, lr8, cr8, rfl⟩, hd, hv, o4⟩
   have hsy : Y < w7.heap.size := (Array.getElem?_eq_some_iff.1 HY7.out).1
   have hv : ∀ x q, (σ6.bind fun _ => argsP d) = .ok x q → CellAt w8 (fun q => Y < q) (.row 6 (x.map argC)) (.slice ar8 lr8 cr8) := fun x q e => CellAt.weaken (fun q _ h => by have h : w7.heap.size ≤ q := h; show Y < q; omega) _ _ (hv x q e)
   obtain ⟨σ8, hσ⟩ : ∃ z, (σ6.bind fun _ => argsP d).unit = z := ⟨_, rfl⟩
   rw [hσ] at hd
   have hj := Jn.call (fun x => CellAt w8 (fun q => Y < q) (.row 6 (x.map argC)) (.slice ar8 lr8 cr8)) HJ7.out hσ.symm hv
   have HJ8 := Lib.hid hj; have HD8 := Lib.hid hd
   clear hj hd hv hσ HJ7 J hsy
   have hr8 := (o4.block B (Array.getElem?_eq_some_iff.1 HR7.out).1 (by omega)).trans HR7.out
   have HR8 := Lib.hid hr8
   have hy8 := (o4.block Y (Array.getElem?_eq_some_iff.1 HY7.out).1 (by omega)).trans HY7.out
   have HY8 := Lib.hid hy8
   have HO8 := Lib.hid (HO7.out.trans' o4 (fun q hq e => by exact e))
   clear hr8 hy8
   have HC8_8 := Lib.hid (Only.refl (fun k => k ≤ Y) w8)
   clear o4
   clear HR7 HO7 HD7 HY7
   obtain ⟨y0, y1, y2, y3, y4, y5, y6, yz⟩ := boxN7 HY8.out
   go_upto_region 7 with (fail)
   clear y0 y1 y2 y3 y4 y5 y6 yz
   have hy9 := heap_set (o := 4) HY8.out (.slice ar8 lr8 cr8)
   have hy9 : (w8.setCell ⟨Y, 4, none⟩ (.slice ar8 lr8 cr8)).heap[Y]? = some (.cells #[.int .u8 1, .string ⟨s2.toArray⟩, .string ⟨s6.toArray⟩, .string ⟨#[]⟩, .slice ar8 lr8 cr8, .slice none 0 0, .slice none 0 0] 53 (0, 0)) := by simpa using hy9
   have os9 : Only (fun k => k = Y) w8 (w8.setCell ⟨Y, 4, none⟩ (.slice ar8 lr8 cr8)) := (Only.refl (fun k => k = Y) _).setCell (p := ⟨Y, 4, none⟩) (.inl rfl) _
   obtain ⟨w9, hw9⟩ : ∃ x, w8.setCell ⟨Y, 4, none⟩ (.slice ar8 lr8 cr8) = x := ⟨_, rfl⟩
   rw [hw9] at hy9 os9
   rw [hw9]
   clear hw9
   have HY9 := Lib.hid hy9; have HD9 := Lib.hid (HD8.out.only os9 (fun k hk e => by omega)); have HJ9 := HJ8
   have hr9 := (os9.block B (Array.getElem?_eq_some_iff.1 HR8.out).1 (by omega)).trans HR8.out
   have HR9 := Lib.hid hr9
   have HC8_9 := Lib.hid (HC8_8.out.trans' os9 (fun q hq e => by have e : q = Y := e; show q ≤ Y; omega))
   have HO9 := Lib.hid (HO8.out.trans' os9 (fun q hq e => by have e : q = Y := e; have := HWB.out; omega))
   clear hr9
   clear hy9 os9 HJ8
   clear HR8 HO8 HD8 HY8 HC8_8
   have J := Lib.hid (fdirs_any d b all HDP.out σ8 w9 HD9.out)
   go_wp2_with fail
   refine J.out.mono ?_
   rintro e w10 ⟨v, rfl, ⟨ar10, lr10, cr10, rfl⟩, hd, hv, o4⟩
   have hsy : Y < w9.heap.size := (Array.getElem?_eq_some_iff.1 HY9.out).1
   have hv : ∀ x q, (σ8.bind fun _ => (fun r => dirsP d (r.length + 1) [] r)) = .ok x q → CellAt w10 (fun q => Y < q) (.row 2 (x.map dirC)) (.slice ar10 lr10 cr10) := fun x q e => CellAt.weaken (fun q _ h => by have h : w9.heap.size ≤ q := h; show Y < q; omega) _ _ (hv x q e)
   obtain ⟨σ10, hσ⟩ : ∃ z, (σ8.bind fun _ => (fun r => dirsP d (r.length + 1) [] r)).unit = z := ⟨_, rfl⟩
   rw [hσ] at hd
   have hj := Jn.call (fun x => CellAt w10 (fun q => Y < q) (.row 2 (x.map dirC)) (.slice ar10 lr10 cr10)) HJ9.out hσ.symm hv
   have HJ10 := Lib.hid hj; have HD10 := Lib.hid hd
   clear hj hd hv hσ HJ9 J hsy
   have hr10 := (o4.block B (Array.getElem?_eq_some_iff.1 HR9.out).1 (by omega)).trans HR9.out
   have HR10 := Lib.hid hr10
   have hy10 := (o4.block Y (Array.getElem?_eq_some_iff.1 HY9.out).1 (by omega)).trans HY9.out
   have HY10 := Lib.hid hy10
   have HC8_10 := Lib.hid (HC8_9.out.trans' o4 (fun q hq e => by have e : q = b := e; show q ≤ Y; omega))
   have HO10 := Lib.hid (HO9.out.trans' o4 (fun q hq e => by exact e))
   clear hr10 hy10
   have HC10_10 := Lib.hid (Only.refl (fun k => k ≤ Y) w10)
   clear o4
   clear HR9 HO9 HD9 HY9 HC8_9
   obtain ⟨y0, y1, y2, y3, y4, y5, y6, yz⟩ := boxN7 HY10.out
   go_upto_region 8 with (fail)
   clear y0 y1 y2 y3 y4 y5 y6 yz
   have hy11 := heap_set (o := 5) HY10.out (.slice ar10 lr10 cr10)
   have hy11 : (w10.setCell ⟨Y, 5, none⟩ (.slice ar10 lr10 cr10)).heap[Y]? = some (.cells #[.int .u8 1, .string ⟨s2.toArray⟩, .string ⟨s6.toArray⟩, .string ⟨#[]⟩, .slice ar8 lr8 cr8, .slice ar10 lr10 cr10, .slice none 0 0] 53 (0, 0)) := by simpa using hy11
   have os11 : Only (fun k => k = Y) w10 (w10.setCell ⟨Y, 5, none⟩ (.slice ar10 lr10 cr10)) := (Only.refl (fun k => k = Y) _).setCell (p := ⟨Y, 5, none⟩) (.inl rfl) _
   obtain ⟨w11, hw11⟩ : ∃ x, w10.setCell ⟨Y, 5, none⟩ (.slice ar10 lr10 cr10) = x := ⟨_, rfl⟩
   rw [hw11] at hy11 os11
   rw [hw11]
   clear hw11
   have HY11 := Lib.hid hy11; have HD11 := Lib.hid (HD10.out.only os11 (fun k hk e => by omega)); have HJ11 := HJ10
   have hr11 := (os11.block B (Array.getElem?_eq_some_iff.1 HR10.out).1 (by omega)).trans HR10.out
   have HR11 := Lib.hid hr11
   have HC8_11 := Lib.hid (HC8_10.out.trans' os11 (fun q hq e => by have e : q = Y := e; show q ≤ Y; omega))
   have HC10_11 := Lib.hid (HC10_10.out.trans' os11 (fun q hq e => by have e : q = Y := e; show q ≤ Y; omega))
   have HO11 := Lib.hid (HO10.out.trans' os11 (fun q hq e => by have e : q = Y := e; have := HWB.out; omega))
   clear hr11
   clear hy11 os11 HJ10
   clear HR10 HO10 HD10 HY10 HC8_10 HC10_10
   have J := Lib.hid (fSign_any b all σ10 [123] w11 HD11.out)
   obtain ⟨bb12, hb12⟩ : ∃ x, tst σ10 (isS [123]) = x := ⟨_, rfl⟩
   rw [hb12] at J
   have HBT := Lib.hid hb12; clear hb12
   cases bb12
   ·
    go_wp2_with fail
    refine J.out.mono ?_
    rintro e w12 ⟨rfl, o4⟩
    have HJ12 := Lib.hid (HJ11.out.no HBT.out)
    have HD12 := Lib.hid (HD11.out.still o4)
    clear HJ11 HBT J
    have hr12 := (o4.block B (Array.getElem?_eq_some_iff.1 HR11.out).1 (fun h => h)).trans HR11.out
    have HR12 := Lib.hid hr12
    have hy12 := (o4.block Y (Array.getElem?_eq_some_iff.1 HY11.out).1 (fun h => h)).trans HY11.out
    have HY12 := Lib.hid hy12
    have HC8_12 := Lib.hid (HC8_11.out.trans' o4 (fun q hq e => by exact e.elim))
    have HC10_12 := Lib.hid (HC10_11.out.trans' o4 (fun q hq e => by exact e.elim))
    have HO12 := Lib.hid (HO11.out.trans' o4 (fun q hq e => by exact e.elim))
    clear hr12 hy12
    clear o4
    clear HR11 HO11 HD11 HY11 HC8_11 HC10_11
    obtain ⟨y0, y1, y2, y3, y4, y5, y6, yz⟩ := boxN7 HY12.out
    go_wp2_with ((refine wpList_store_box (o := ⟨none, _, _, _, _, _⟩) rfl 53 (.tmp 2) (.tmp 30) (by rfl) B [.int .u8 0, .string ⟨#[]⟩, .string ⟨#[]⟩, .string ⟨#[]⟩, .slice none 0 0, .slice none 0 0, .slice none 0 0] [.int .u8 1, .string ⟨s2.toArray⟩, .string ⟨s6.toArray⟩, .string ⟨#[]⟩, .slice ar8 lr8 cr8, .slice ar10 lr10 cr10, .slice none 0 0] (by rfl) (by rfl) HR12.out (by rfl) (by kernel_rfl) (by intro u hu; simp at hu; rcases hu with rfl | rfl | rfl | rfl | rfl | rfl | rfl <;> rfl) ?_; intro w9 k1 k2))
    clear y0 y1 y2 y3 y4 y5 y6 yz
    obtain ⟨y0, y1, y2, y3, y4, y5, y6, -⟩ := boxN7 k1
    obtain ⟨hdn, hxs⟩ := HJ12.out.done
    have hd9 : Rf w9 b all total.unit := by rw [← hdn]; exact HD12.out.only k2 (fun k hk e => by omega)
    have o8 := HC8_12.out.trans' k2 (fun q hq e => by have e : q = B := e; show q ≤ Y; omega)
    have o10 := HC10_12.out.trans' k2 (fun q hq e => by have e : q = B := e; show q ≤ Y; omega)
    have hag : ∀ x q, total = .ok x q → aggP B selC w9 x (.agg #[.int .u8 1, .string ⟨s2.toArray⟩, .string ⟨s6.toArray⟩, .string ⟨#[]⟩, .slice ar8 lr8 cr8, .slice ar10 lr10 cr10, .slice none 0 0]) := fun x q e => by
     obtain ⟨⟨⟨⟨⟨u, n1⟩, n2⟩, x3⟩, x4⟩, rfl, ⟨⟨⟨⟨-, k1⟩, k2⟩, k3⟩, k4⟩⟩ := hxs x q e
     subst k1
     subst k2
     exact ⟨_, rfl, CellsAt.lit rfl (CellsAt.lit rfl (CellsAt.lit rfl (CellsAt.lit rfl (CellsAt.cons (CellAt.weaken (G' := fun q => B ≤ q) (fun q _ h => by have h : Y < q := h; show B ≤ q; omega) _ _ (CellAt.only o8 (fun k hk e => by have hk : Y < k := hk; have e : k ≤ Y := e; omega) _ _ k3)) (CellsAt.cons (CellAt.weaken (G' := fun q => B ≤ q) (fun q _ h => by have h : Y < q := h; show B ≤ q; omega) _ _ (CellAt.only o10 (fun k hk e => by have hk : Y < k := hk; have e : k ≤ Y := e; omega) _ _ k4)) (CellsAt.cons (by rw [selCs]; exact CellAt.nilRow _ _ _) (CellsAt.nil _ _)))))))⟩
    exact bodyPost_ret (v := .agg #[.int .u8 1, .string ⟨s2.toArray⟩, .string ⟨s6.toArray⟩, .string ⟨#[]⟩, .slice ar8 lr8 cr8, .slice ar10 lr10 cr10, .slice none 0 0]) (by simp [results, Tryz.results71, go_sem, y0, y1, y2, y3, y4, y5, y6]) rfl (HPP.out w9 _ ⟨1, s2, s6, [], ar8, lr8, cr8, ar10, lr10, cr10, none, 0, 0, rfl⟩ hd9 hag (HO12.out.trans' k2 (fun q hq e => by have := HWB.out; omega)))
   ·
    go_wp2_with fail
    refine J.out.mono ?_
    rintro e w12 ⟨rfl, o4⟩
    have HJ12 := Lib.hid (HJ11.out.yes HBT.out)
    have HD12 := Lib.hid (HD11.out.still o4)
    clear HJ11 HBT J
    have hr12 := (o4.block B (Array.getElem?_eq_some_iff.1 HR11.out).1 (fun h => h)).trans HR11.out
    have HR12 := Lib.hid hr12
    have hy12 := (o4.block Y (Array.getElem?_eq_some_iff.1 HY11.out).1 (fun h => h)).trans HY11.out
    have HY12 := Lib.hid hy12
    have HC8_12 := Lib.hid (HC8_11.out.trans' o4 (fun q hq e => by exact e.elim))
    have HC10_12 := Lib.hid (HC10_11.out.trans' o4 (fun q hq e => by exact e.elim))
    have HO12 := Lib.hid (HO11.out.trans' o4 (fun q hq e => by exact e.elim))
    clear hr12 hy12
    clear o4
    clear HR11 HO11 HD11 HY11 HC8_11 HC10_11
    have J := Lib.hid (IH.out σ10 w12 HD12.out)
    go_wp2_with fail
    refine J.out.mono ?_
    rintro e w13 ⟨v, rfl, ⟨ar13, lr13, cr13, rfl⟩, hd, hv, o4⟩
    have hsy : Y < w12.heap.size := (Array.getElem?_eq_some_iff.1 HY12.out).1
    have hv : ∀ x q, (σ10.bind fun _ => (setP d)) = .ok x q → CellAt w13 (fun q => Y < q) (.row 7 (x.map selC)) (.slice ar13 lr13 cr13) := fun x q e => CellAt.weaken (fun q _ h => by have h : w12.heap.size ≤ q := h; show Y < q; omega) _ _ (hv x q e)
    obtain ⟨σ13, hσ⟩ : ∃ z, (σ10.bind fun _ => (setP d)).unit = z := ⟨_, rfl⟩
    rw [hσ] at hd
    have hj := Jn.call (fun x => CellAt w13 (fun q => Y < q) (.row 7 (x.map selC)) (.slice ar13 lr13 cr13)) HJ12.out hσ.symm hv
    have HJ13 := Lib.hid hj; have HD13 := Lib.hid hd
    clear hj hd hv hσ HJ12 J hsy
    have hr13 := (o4.block B (Array.getElem?_eq_some_iff.1 HR12.out).1 (by omega)).trans HR12.out
    have HR13 := Lib.hid hr13
    have hy13 := (o4.block Y (Array.getElem?_eq_some_iff.1 HY12.out).1 (by omega)).trans HY12.out
    have HY13 := Lib.hid hy13
    have HC8_13 := Lib.hid (HC8_12.out.trans' o4 (fun q hq e => by have e : q = b := e; show q ≤ Y; omega))
    have HC10_13 := Lib.hid (HC10_12.out.trans' o4 (fun q hq e => by have e : q = b := e; show q ≤ Y; omega))
    have HO13 := Lib.hid (HO12.out.trans' o4 (fun q hq e => by exact e))
    clear hr13 hy13
    have HC13_13 := Lib.hid (Only.refl (fun k => k ≤ Y) w13)
    clear o4
    clear HR12 HO12 HD12 HY12 HC8_12 HC10_12
    obtain ⟨y0, y1, y2, y3, y4, y5, y6, yz⟩ := boxN7 HY13.out
    go_upto_region 10 with (fail)
    clear y0 y1 y2 y3 y4 y5 y6 yz
    have hy14 := heap_set (o := 6) HY13.out (.slice ar13 lr13 cr13)
    have hy14 : (w13.setCell ⟨Y, 6, none⟩ (.slice ar13 lr13 cr13)).heap[Y]? = some (.cells #[.int .u8 1, .string ⟨s2.toArray⟩, .string ⟨s6.toArray⟩, .string ⟨#[]⟩, .slice ar8 lr8 cr8, .slice ar10 lr10 cr10, .slice ar13 lr13 cr13] 53 (0, 0)) := by simpa using hy14
    have os14 : Only (fun k => k = Y) w13 (w13.setCell ⟨Y, 6, none⟩ (.slice ar13 lr13 cr13)) := (Only.refl (fun k => k = Y) _).setCell (p := ⟨Y, 6, none⟩) (.inl rfl) _
    obtain ⟨w14, hw14⟩ : ∃ x, w13.setCell ⟨Y, 6, none⟩ (.slice ar13 lr13 cr13) = x := ⟨_, rfl⟩
    rw [hw14] at hy14 os14
    rw [hw14]
    clear hw14
    have HY14 := Lib.hid hy14; have HD14 := Lib.hid (HD13.out.only os14 (fun k hk e => by omega)); have HJ14 := HJ13
    have hr14 := (os14.block B (Array.getElem?_eq_some_iff.1 HR13.out).1 (by omega)).trans HR13.out
    have HR14 := Lib.hid hr14
    have HC8_14 := Lib.hid (HC8_13.out.trans' os14 (fun q hq e => by have e : q = Y := e; show q ≤ Y; omega))
    have HC10_14 := Lib.hid (HC10_13.out.trans' os14 (fun q hq e => by have e : q = Y := e; show q ≤ Y; omega))
    have HC13_14 := Lib.hid (HC13_13.out.trans' os14 (fun q hq e => by have e : q = Y := e; show q ≤ Y; omega))
    have HO14 := Lib.hid (HO13.out.trans' os14 (fun q hq e => by have e : q = Y := e; have := HWB.out; omega))
    clear hr14
    clear hy14 os14 HJ13
    clear HR13 HO13 HD13 HY13 HC8_13 HC10_13 HC13_13
    obtain ⟨y0, y1, y2, y3, y4, y5, y6, yz⟩ := boxN7 HY14.out
    go_wp2_with ((refine wpList_store_box (o := ⟨none, _, _, _, _, _⟩) rfl 53 (.tmp 2) (.tmp 30) (by rfl) B [.int .u8 0, .string ⟨#[]⟩, .string ⟨#[]⟩, .string ⟨#[]⟩, .slice none 0 0, .slice none 0 0, .slice none 0 0] [.int .u8 1, .string ⟨s2.toArray⟩, .string ⟨s6.toArray⟩, .string ⟨#[]⟩, .slice ar8 lr8 cr8, .slice ar10 lr10 cr10, .slice ar13 lr13 cr13] (by rfl) (by rfl) HR14.out (by rfl) (by kernel_rfl) (by intro u hu; simp at hu; rcases hu with rfl | rfl | rfl | rfl | rfl | rfl | rfl <;> rfl) ?_; intro w9 k1 k2))
    clear y0 y1 y2 y3 y4 y5 y6 yz
    obtain ⟨y0, y1, y2, y3, y4, y5, y6, -⟩ := boxN7 k1
    obtain ⟨hdn, hxs⟩ := HJ14.out.done
    have hd9 : Rf w9 b all total.unit := by rw [← hdn]; exact HD14.out.only k2 (fun k hk e => by omega)
    have o8 := HC8_14.out.trans' k2 (fun q hq e => by have e : q = B := e; show q ≤ Y; omega)
    have o10 := HC10_14.out.trans' k2 (fun q hq e => by have e : q = B := e; show q ≤ Y; omega)
    have o13 := HC13_14.out.trans' k2 (fun q hq e => by have e : q = B := e; show q ≤ Y; omega)
    have hag : ∀ x q, total = .ok x q → aggP B selC w9 x (.agg #[.int .u8 1, .string ⟨s2.toArray⟩, .string ⟨s6.toArray⟩, .string ⟨#[]⟩, .slice ar8 lr8 cr8, .slice ar10 lr10 cr10, .slice ar13 lr13 cr13]) := fun x q e => by
     obtain ⟨⟨⟨⟨⟨⟨u, n1⟩, n2⟩, x3⟩, x4⟩, x5⟩, rfl, ⟨⟨⟨⟨⟨-, k1⟩, k2⟩, k3⟩, k4⟩, k5⟩⟩ := hxs x q e
     subst k1
     subst k2
     exact ⟨_, rfl, CellsAt.lit rfl (CellsAt.lit rfl (CellsAt.lit rfl (CellsAt.lit rfl (CellsAt.cons (CellAt.weaken (G' := fun q => B ≤ q) (fun q _ h => by have h : Y < q := h; show B ≤ q; omega) _ _ (CellAt.only o8 (fun k hk e => by have hk : Y < k := hk; have e : k ≤ Y := e; omega) _ _ k3)) (CellsAt.cons (CellAt.weaken (G' := fun q => B ≤ q) (fun q _ h => by have h : Y < q := h; show B ≤ q; omega) _ _ (CellAt.only o10 (fun k hk e => by have hk : Y < k := hk; have e : k ≤ Y := e; omega) _ _ k4)) (CellsAt.cons (by rw [selCs_map]; exact CellAt.weaken (G' := fun q => B ≤ q) (fun q _ h => by have h : Y < q := h; show B ≤ q; omega) _ _ (CellAt.only o13 (fun k hk e => by have hk : Y < k := hk; have e : k ≤ Y := e; omega) _ _ k5)) (CellsAt.nil _ _)))))))⟩
    exact bodyPost_ret (v := .agg #[.int .u8 1, .string ⟨s2.toArray⟩, .string ⟨s6.toArray⟩, .string ⟨#[]⟩, .slice ar8 lr8 cr8, .slice ar10 lr10 cr10, .slice ar13 lr13 cr13]) (by simp [results, Tryz.results71, go_sem, y0, y1, y2, y3, y4, y5, y6]) rfl (HPP.out w9 _ ⟨1, s2, s6, [], ar8, lr8, cr8, ar10, lr10, cr10, ar13, lr13, cr13, rfl⟩ hd9 hag (HO14.out.trans' k2 (fun q hq e => by have := HWB.out; omega)))
 ·
  rw [if_pos rfl] at J
  go_wp2_with fail
  refine J.out.mono ?_
  rintro e w1 ⟨rfl, hd, o4⟩
  have HJ1 := Lib.hid (Jn.adv (F := fun (_ : Unit) r => if isT wOn r then (nameP r.tail).bind fun s r1 => (dirsP d (r1.length + 1) [] r1).bind fun ds r2 => (setP d r2).bind fun sub r3 => .ok (SL.mk 3 [] [] s [] ds sub) r3 else if isK 1 r then (nameP r).bind fun s r1 => (dirsP d (r1.length + 1) [] r1).bind fun ds r2 => .ok (SL.mk 2 [] s [] [] ds []) r2 else (dirsP d (r.length + 1) [] r).bind fun ds r2 => (setP d r2).bind fun sub r3 => .ok (SL.mk 3 [] [] [] [] ds sub) r3) (HJ0.out.yes HBT.out))
  obtain ⟨σ1, hσ⟩ : ∃ z, adv σ0 = z := ⟨_, rfl⟩
  rw [hσ] at hd HJ1
  clear hσ
  have HD1 := Lib.hid hd
  clear HJ0 hd HBT J
  have hr1 := (o4.block B (Array.getElem?_eq_some_iff.1 HR0.out).1 (by omega)).trans HR0.out
  have HR1 := Lib.hid hr1
  have HO1 := Lib.hid (HO0.out.trans' o4 (fun q hq e => by exact e))
  clear hr1
  clear o4
  clear HR0 HO0 HD0
  have hsz2 : B < w1.heap.size := (Array.getElem?_eq_some_iff.1 HR1.out).1
  obtain ⟨Y, hY⟩ : ∃ Y, w1.heap.size = Y := ⟨_, rfl⟩
  obtain ⟨w2, hw2⟩ : ∃ x, w1.alloc (.cells #[.int .u8 3, .string ⟨#[]⟩, .string ⟨#[]⟩, .string ⟨#[]⟩, .slice none 0 0, .slice none 0 0, .slice none 0 0] 53) = x := ⟨_, rfl⟩
  have hy2 : w2.heap[Y]? = some (.cells #[.int .u8 3, .string ⟨#[]⟩, .string ⟨#[]⟩, .string ⟨#[]⟩, .slice none 0 0, .slice none 0 0, .slice none 0 0] 53 (0, 0)) := by rw [← hw2, ← hY]; exact heap_new _ _
  have hr2 : w2.heap[B]? = some (.cells #[.int .u8 0, .string ⟨#[]⟩, .string ⟨#[]⟩, .string ⟨#[]⟩, .slice none 0 0, .slice none 0 0, .slice none 0 0] 53 (0, 0)) := by rw [← hw2]; exact heap_old HR1.out _
  have oa2 : Only (fun _ => False) w1 w2 := by rw [← hw2]; exact (Only.refl _ _).alloc _
  rw [hY] at hsz2
  have HY2 := Lib.hid hy2; have HR2 := Lib.hid hr2; have HD2 := Lib.hid (HD1.out.still oa2); have HO2 := Lib.hid (HO1.out.trans' oa2 (fun q _ e => e.elim)); have HW2 := Lib.hid hw2; have HYY := Lib.hid hY; have HJ2 := HJ1
  clear hy2 hr2 hw2 hY oa2 HR1 HD1 HO1 HJ1
  go_upto_region 12 with (fail)
  rw [HYY.out, HW2.out]
  clear HYY HW2
  have J := Lib.hid (fEat_any b all σ1 [111, 110] w2 HD2.out)
  unfold tookF at J
  obtain ⟨bb3, hb3⟩ : ∃ x, tst σ1 (isT [111, 110]) = x := ⟨_, rfl⟩
  rw [hb3] at J
  have HBT := Lib.hid hb3; clear hb3
  cases bb3
  ·
   rw [if_neg (by decide)] at J
   go_wp2_with fail
   refine J.out.mono ?_
   rintro e w3 ⟨rfl, hd, o4⟩
   have HJ3 := Lib.hid (HJ2.out.no HBT.out)
   have HD3 := Lib.hid hd
   clear HJ2 hd HBT J
   have hr3 := (o4.block B (Array.getElem?_eq_some_iff.1 HR2.out).1 (by omega)).trans HR2.out
   have HR3 := Lib.hid hr3
   have hy3 := (o4.block Y (Array.getElem?_eq_some_iff.1 HY2.out).1 (by omega)).trans HY2.out
   have HY3 := Lib.hid hy3
   have HO3 := Lib.hid (HO2.out.trans' o4 (fun q hq e => by exact e))
   clear hr3 hy3
   clear o4
   clear HR2 HO2 HD2 HY2
   have J := Lib.hid (fKind_any b all σ1 1 w3 HD3.out (by decide))
   obtain ⟨bb4, hb4⟩ : ∃ x, tst σ1 (isK 1) = x := ⟨_, rfl⟩
   rw [hb4] at J
   have HBT := Lib.hid hb4; clear hb4
   cases bb4
   ·
    go_wp2_with fail
    refine J.out.mono ?_
    rintro e w4 ⟨rfl, o4⟩
    have HJ4 := Lib.hid (HJ3.out.no HBT.out)
    have HD4 := Lib.hid (HD3.out.still o4)
    clear HJ3 HBT J
    have hr4 := (o4.block B (Array.getElem?_eq_some_iff.1 HR3.out).1 (fun h => h)).trans HR3.out
    have HR4 := Lib.hid hr4
    have hy4 := (o4.block Y (Array.getElem?_eq_some_iff.1 HY3.out).1 (fun h => h)).trans HY3.out
    have HY4 := Lib.hid hy4
    have HO4 := Lib.hid (HO3.out.trans' o4 (fun q hq e => by exact e.elim))
    clear hr4 hy4
    clear o4
    clear HR3 HO3 HD3 HY3
    have J := Lib.hid (fdirs_any d b all HDP.out σ1 w4 HD4.out)
    go_wp2_with fail
    refine J.out.mono ?_
    rintro e w5 ⟨v, rfl, ⟨ar5, lr5, cr5, rfl⟩, hd, hv, o4⟩
    have hsy : Y < w4.heap.size := (Array.getElem?_eq_some_iff.1 HY4.out).1
    have hv : ∀ x q, (σ1.bind fun _ => (fun r => dirsP d (r.length + 1) [] r)) = .ok x q → CellAt w5 (fun q => Y < q) (.row 2 (x.map dirC)) (.slice ar5 lr5 cr5) := fun x q e => CellAt.weaken (fun q _ h => by have h : w4.heap.size ≤ q := h; show Y < q; omega) _ _ (hv x q e)
    obtain ⟨σ5, hσ⟩ : ∃ z, (σ1.bind fun _ => (fun r => dirsP d (r.length + 1) [] r)).unit = z := ⟨_, rfl⟩
    rw [hσ] at hd
    have hj := Jn.call (fun x => CellAt w5 (fun q => Y < q) (.row 2 (x.map dirC)) (.slice ar5 lr5 cr5)) HJ4.out hσ.symm hv
    have HJ5 := Lib.hid hj; have HD5 := Lib.hid hd
    clear hj hd hv hσ HJ4 J hsy
    have hr5 := (o4.block B (Array.getElem?_eq_some_iff.1 HR4.out).1 (by omega)).trans HR4.out
    have HR5 := Lib.hid hr5
    have hy5 := (o4.block Y (Array.getElem?_eq_some_iff.1 HY4.out).1 (by omega)).trans HY4.out
    have HY5 := Lib.hid hy5
    have HO5 := Lib.hid (HO4.out.trans' o4 (fun q hq e => by exact e))
    clear hr5 hy5
    have HC5_5 := Lib.hid (Only.refl (fun k => k ≤ Y) w5)
    clear o4
    clear HR4 HO4 HD4 HY4
    obtain ⟨y0, y1, y2, y3, y4, y5, y6, yz⟩ := boxN7 HY5.out
    go_upto_region 20 with (fail)
    clear y0 y1 y2 y3 y4 y5 y6 yz
    have hy6 := heap_set (o := 5) HY5.out (.slice ar5 lr5 cr5)
    have hy6 : (w5.setCell ⟨Y, 5, none⟩ (.slice ar5 lr5 cr5)).heap[Y]? = some (.cells #[.int .u8 3, .string ⟨#[]⟩, .string ⟨#[]⟩, .string ⟨#[]⟩, .slice none 0 0, .slice ar5 lr5 cr5, .slice none 0 0] 53 (0, 0)) := by simpa using hy6
    have os6 : Only (fun k => k = Y) w5 (w5.setCell ⟨Y, 5, none⟩ (.slice ar5 lr5 cr5)) := (Only.refl (fun k => k = Y) _).setCell (p := ⟨Y, 5, none⟩) (.inl rfl) _
    obtain ⟨w6, hw6⟩ : ∃ x, w5.setCell ⟨Y, 5, none⟩ (.slice ar5 lr5 cr5) = x := ⟨_, rfl⟩
    rw [hw6] at hy6 os6
    rw [hw6]
    clear hw6
    have HY6 := Lib.hid hy6; have HD6 := Lib.hid (HD5.out.only os6 (fun k hk e => by omega)); have HJ6 := HJ5
    have hr6 := (os6.block B (Array.getElem?_eq_some_iff.1 HR5.out).1 (by omega)).trans HR5.out
    have HR6 := Lib.hid hr6
    have HC5_6 := Lib.hid (HC5_5.out.trans' os6 (fun q hq e => by have e : q = Y := e; show q ≤ Y; omega))
    have HO6 := Lib.hid (HO5.out.trans' os6 (fun q hq e => by have e : q = Y := e; have := HWB.out; omega))
    clear hr6
    clear hy6 os6 HJ5
    clear HR5 HO5 HD5 HY5 HC5_5
    have J := Lib.hid (IH.out σ5 w6 HD6.out)
    go_wp2_with fail
    refine J.out.mono ?_
    rintro e w7 ⟨v, rfl, ⟨ar7, lr7, cr7, rfl⟩, hd, hv, o4⟩
    have hsy : Y < w6.heap.size := (Array.getElem?_eq_some_iff.1 HY6.out).1
    have hv : ∀ x q, (σ5.bind fun _ => (setP d)) = .ok x q → CellAt w7 (fun q => Y < q) (.row 7 (x.map selC)) (.slice ar7 lr7 cr7) := fun x q e => CellAt.weaken (fun q _ h => by have h : w6.heap.size ≤ q := h; show Y < q; omega) _ _ (hv x q e)
    obtain ⟨σ7, hσ⟩ : ∃ z, (σ5.bind fun _ => (setP d)).unit = z := ⟨_, rfl⟩
    rw [hσ] at hd
    have hj := Jn.call (fun x => CellAt w7 (fun q => Y < q) (.row 7 (x.map selC)) (.slice ar7 lr7 cr7)) HJ6.out hσ.symm hv
    have HJ7 := Lib.hid hj; have HD7 := Lib.hid hd
    clear hj hd hv hσ HJ6 J hsy
    have hr7 := (o4.block B (Array.getElem?_eq_some_iff.1 HR6.out).1 (by omega)).trans HR6.out
    have HR7 := Lib.hid hr7
    have hy7 := (o4.block Y (Array.getElem?_eq_some_iff.1 HY6.out).1 (by omega)).trans HY6.out
    have HY7 := Lib.hid hy7
    have HC5_7 := Lib.hid (HC5_6.out.trans' o4 (fun q hq e => by have e : q = b := e; show q ≤ Y; omega))
    have HO7 := Lib.hid (HO6.out.trans' o4 (fun q hq e => by exact e))
    clear hr7 hy7
    have HC7_7 := Lib.hid (Only.refl (fun k => k ≤ Y) w7)
    clear o4
    clear HR6 HO6 HD6 HY6 HC5_6
    obtain ⟨y0, y1, y2, y3, y4, y5, y6, yz⟩ := boxN7 HY7.out
    go_upto_region 21 with (fail)
    clear y0 y1 y2 y3 y4 y5 y6 yz
    have hy8 := heap_set (o := 6) HY7.out (.slice ar7 lr7 cr7)
    have hy8 : (w7.setCell ⟨Y, 6, none⟩ (.slice ar7 lr7 cr7)).heap[Y]? = some (.cells #[.int .u8 3, .string ⟨#[]⟩, .string ⟨#[]⟩, .string ⟨#[]⟩, .slice none 0 0, .slice ar5 lr5 cr5, .slice ar7 lr7 cr7] 53 (0, 0)) := by simpa using hy8
    have os8 : Only (fun k => k = Y) w7 (w7.setCell ⟨Y, 6, none⟩ (.slice ar7 lr7 cr7)) := (Only.refl (fun k => k = Y) _).setCell (p := ⟨Y, 6, none⟩) (.inl rfl) _
    obtain ⟨w8, hw8⟩ : ∃ x, w7.setCell ⟨Y, 6, none⟩ (.slice ar7 lr7 cr7) = x := ⟨_, rfl⟩
    rw [hw8] at hy8 os8
    rw [hw8]
    clear hw8
    have HY8 := Lib.hid hy8; have HD8 := Lib.hid (HD7.out.only os8 (fun k hk e => by omega)); have HJ8 := HJ7
    have hr8 := (os8.block B (Array.getElem?_eq_some_iff.1 HR7.out).1 (by omega)).trans HR7.out
    have HR8 := Lib.hid hr8
    have HC5_8 := Lib.hid (HC5_7.out.trans' os8 (fun q hq e => by have e : q = Y := e; show q ≤ Y; omega))
    have HC7_8 := Lib.hid (HC7_7.out.trans' os8 (fun q hq e => by have e : q = Y := e; show q ≤ Y; omega))
    have HO8 := Lib.hid (HO7.out.trans' os8 (fun q hq e => by have e : q = Y := e; have := HWB.out; omega))
    clear hr8
    clear hy8 os8 HJ7
    clear HR7 HO7 HD7 HY7 HC5_7 HC7_7
    obtain ⟨y0, y1, y2, y3, y4, y5, y6, yz⟩ := boxN7 HY8.out
    go_wp2_with ((refine wpList_store_box (o := ⟨none, _, _, _, _, _⟩) rfl 53 (.tmp 2) (.tmp 53) (by rfl) B [.int .u8 0, .string ⟨#[]⟩, .string ⟨#[]⟩, .string ⟨#[]⟩, .slice none 0 0, .slice none 0 0, .slice none 0 0] [.int .u8 3, .string ⟨#[]⟩, .string ⟨#[]⟩, .string ⟨#[]⟩, .slice none 0 0, .slice ar5 lr5 cr5, .slice ar7 lr7 cr7] (by rfl) (by rfl) HR8.out (by rfl) (by kernel_rfl) (by intro u hu; simp at hu; rcases hu with rfl | rfl | rfl | rfl | rfl | rfl | rfl <;> rfl) ?_; intro w9 k1 k2))
    clear y0 y1 y2 y3 y4 y5 y6 yz
    obtain ⟨y0, y1, y2, y3, y4, y5, y6, -⟩ := boxN7 k1
    obtain ⟨hdn, hxs⟩ := HJ8.out.done
    have hd9 : Rf w9 b all total.unit := by rw [← hdn]; exact HD8.out.only k2 (fun k hk e => by omega)
    have o5 := HC5_8.out.trans' k2 (fun q hq e => by have e : q = B := e; show q ≤ Y; omega)
    have o7 := HC7_8.out.trans' k2 (fun q hq e => by have e : q = B := e; show q ≤ Y; omega)
    have hag : ∀ x q, total = .ok x q → aggP B selC w9 x (.agg #[.int .u8 3, .string ⟨#[]⟩, .string ⟨#[]⟩, .string ⟨#[]⟩, .slice none 0 0, .slice ar5 lr5 cr5, .slice ar7 lr7 cr7]) := fun x q e => by
     obtain ⟨⟨⟨u, x4⟩, x5⟩, rfl, ⟨⟨-, k4⟩, k5⟩⟩ := hxs x q e
     exact ⟨_, rfl, CellsAt.lit rfl (CellsAt.lit rfl (CellsAt.lit rfl (CellsAt.lit rfl (CellsAt.cons (CellAt.nilRow _ _ _) (CellsAt.cons (CellAt.weaken (G' := fun q => B ≤ q) (fun q _ h => by have h : Y < q := h; show B ≤ q; omega) _ _ (CellAt.only o5 (fun k hk e => by have hk : Y < k := hk; have e : k ≤ Y := e; omega) _ _ k4)) (CellsAt.cons (by rw [selCs_map]; exact CellAt.weaken (G' := fun q => B ≤ q) (fun q _ h => by have h : Y < q := h; show B ≤ q; omega) _ _ (CellAt.only o7 (fun k hk e => by have hk : Y < k := hk; have e : k ≤ Y := e; omega) _ _ k5)) (CellsAt.nil _ _)))))))⟩
    exact bodyPost_ret (v := .agg #[.int .u8 3, .string ⟨#[]⟩, .string ⟨#[]⟩, .string ⟨#[]⟩, .slice none 0 0, .slice ar5 lr5 cr5, .slice ar7 lr7 cr7]) (by simp [results, Tryz.results71, go_sem, y0, y1, y2, y3, y4, y5, y6]) rfl (HPP.out w9 _ ⟨3, [], [], [], none, 0, 0, ar5, lr5, cr5, ar7, lr7, cr7, rfl⟩ hd9 hag (HO8.out.trans' k2 (fun q hq e => by have := HWB.out; omega)))
   ·
    go_wp2_with fail
    refine J.out.mono ?_
    rintro e w4 ⟨rfl, o4⟩
    have HJ4 := Lib.hid (HJ3.out.yes HBT.out)
    have HD4 := Lib.hid (HD3.out.still o4)
    clear HJ3 HBT J
    have hr4 := (o4.block B (Array.getElem?_eq_some_iff.1 HR3.out).1 (fun h => h)).trans HR3.out
    have HR4 := Lib.hid hr4
    have hy4 := (o4.block Y (Array.getElem?_eq_some_iff.1 HY3.out).1 (fun h => h)).trans HY3.out
    have HY4 := Lib.hid hy4
    have HO4 := Lib.hid (HO3.out.trans' o4 (fun q hq e => by exact e.elim))
    clear hr4 hy4
    clear o4
    clear HR3 HO3 HD3 HY3
    obtain ⟨y0, y1, y2, y3, y4, y5, y6, yz⟩ := boxN7 HY4.out
    go_upto_region 16 with (fail)
    clear y0 y1 y2 y3 y4 y5 y6 yz
    have hy5 := heap_set (o := 0) HY4.out (.int .u8 2)
    have hy5 : (w4.setCell ⟨Y, 0, none⟩ (.int .u8 2)).heap[Y]? = some (.cells #[.int .u8 2, .string ⟨#[]⟩, .string ⟨#[]⟩, .string ⟨#[]⟩, .slice none 0 0, .slice none 0 0, .slice none 0 0] 53 (0, 0)) := by simpa using hy5
    have os5 : Only (fun k => k = Y) w4 (w4.setCell ⟨Y, 0, none⟩ (.int .u8 2)) := (Only.refl (fun k => k = Y) _).setCell (p := ⟨Y, 0, none⟩) (.inl rfl) _
    obtain ⟨w5, hw5⟩ : ∃ x, w4.setCell ⟨Y, 0, none⟩ (.int .u8 2) = x := ⟨_, rfl⟩
    rw [hw5] at hy5 os5
    rw [hw5]
    clear hw5
    have HY5 := Lib.hid hy5; have HD5 := Lib.hid (HD4.out.only os5 (fun k hk e => by omega)); have HJ5 := HJ4
    have hr5 := (os5.block B (Array.getElem?_eq_some_iff.1 HR4.out).1 (by omega)).trans HR4.out
    have HR5 := Lib.hid hr5
    have HO5 := Lib.hid (HO4.out.trans' os5 (fun q hq e => by have e : q = Y := e; have := HWB.out; omega))
    clear hr5
    clear hy5 os5 HJ4
    clear HR4 HO4 HD4 HY4
    have J := Lib.hid (fName_any b all σ1 w5 HD5.out)
    go_wp2_with fail
    refine J.out.mono ?_
    rintro e w6 ⟨v, rfl, ⟨s6, rfl⟩, hd, hv, o4⟩
    have hv : ∀ x q, (σ1.bind fun _ => nameP) = .ok x q → s6 = x := fun x q e => strF_inj (hv x q e)
    obtain ⟨σ6, hσ⟩ : ∃ z, (σ1.bind fun _ => nameP).unit = z := ⟨_, rfl⟩
    rw [hσ] at hd
    have hj := Jn.call (fun x => s6 = x) HJ5.out hσ.symm hv
    have HJ6 := Lib.hid hj; have HD6 := Lib.hid hd
    clear hj hd hv hσ HJ5 J
    have hr6 := (o4.block B (Array.getElem?_eq_some_iff.1 HR5.out).1 (by omega)).trans HR5.out
    have HR6 := Lib.hid hr6
    have hy6 := (o4.block Y (Array.getElem?_eq_some_iff.1 HY5.out).1 (by omega)).trans HY5.out
    have HY6 := Lib.hid hy6
    have HO6 := Lib.hid (HO5.out.trans' o4 (fun q hq e => by exact e))
    clear hr6 hy6
    clear o4
    clear HR5 HO5 HD5 HY5
    obtain ⟨y0, y1, y2, y3, y4, y5, y6, yz⟩ := boxN7 HY6.out
    go_upto_region 17 with (fail)
    clear y0 y1 y2 y3 y4 y5 y6 yz
    have hy7 := heap_set (o := 2) HY6.out (.string ⟨s6.toArray⟩)
    have hy7 : (w6.setCell ⟨Y, 2, none⟩ (.string ⟨s6.toArray⟩)).heap[Y]? = some (.cells #[.int .u8 2, .string ⟨#[]⟩, .string ⟨s6.toArray⟩, .string ⟨#[]⟩, .slice none 0 0, .slice none 0 0, .slice none 0 0] 53 (0, 0)) := by simpa using hy7
    have os7 : Only (fun k => k = Y) w6 (w6.setCell ⟨Y, 2, none⟩ (.string ⟨s6.toArray⟩)) := (Only.refl (fun k => k = Y) _).setCell (p := ⟨Y, 2, none⟩) (.inl rfl) _
    obtain ⟨w7, hw7⟩ : ∃ x, w6.setCell ⟨Y, 2, none⟩ (.string ⟨s6.toArray⟩) = x := ⟨_, rfl⟩
    rw [hw7] at hy7 os7
    rw [hw7]
    clear hw7
    have HY7 := Lib.hid hy7; have HD7 := Lib.hid (HD6.out.only os7 (fun k hk e => by omega)); have HJ7 := HJ6
    have hr7 := (os7.block B (Array.getElem?_eq_some_iff.1 HR6.out).1 (by omega)).trans HR6.out
    have HR7 := Lib.hid hr7
    have HO7 := Lib.hid (HO6.out.trans' os7 (fun q hq e => by have e : q = Y := e; have := HWB.out; omega))
    clear hr7
    clear hy7 os7 HJ6
    clear HR6 HO6 HD6 HY6
    have J := Lib.hid (fdirs_any d b all HDP.out σ6 w7 HD7.out)
    go_wp2_with fail
    refine J.out.mono ?_
    rintro e w8 ⟨v, rfl, ⟨ar8, lr8, cr8, rfl⟩, hd, hv, o4⟩
    have hsy : Y < w7.heap.size := (Array.getElem?_eq_some_iff.1 HY7.out).1
    have hv : ∀ x q, (σ6.bind fun _ => (fun r => dirsP d (r.length + 1) [] r)) = .ok x q → CellAt w8 (fun q => Y < q) (.row 2 (x.map dirC)) (.slice ar8 lr8 cr8) := fun x q e => CellAt.weaken (fun q _ h => by have h : w7.heap.size ≤ q := h; show Y < q; omega) _ _ (hv x q e)
    obtain ⟨σ8, hσ⟩ : ∃ z, (σ6.bind fun _ => (fun r => dirsP d (r.length + 1) [] r)).unit = z := ⟨_, rfl⟩
    rw [hσ] at hd
    have hj := Jn.call (fun x => CellAt w8 (fun q => Y < q) (.row 2 (x.map dirC)) (.slice ar8 lr8 cr8)) HJ7.out hσ.symm hv
    have HJ8 := Lib.hid hj; have HD8 := Lib.hid hd
    clear hj hd hv hσ HJ7 J hsy
    have hr8 := (o4.block B (Array.getElem?_eq_some_iff.1 HR7.out).1 (by omega)).trans HR7.out
    have HR8 := Lib.hid hr8
    have hy8 := (o4.block Y (Array.getElem?_eq_some_iff.1 HY7.out).1 (by omega)).trans HY7.out
    have HY8 := Lib.hid hy8
    have HO8 := Lib.hid (HO7.out.trans' o4 (fun q hq e => by exact e))
    clear hr8 hy8
    have HC8_8 := Lib.hid (Only.refl (fun k => k ≤ Y) w8)
    clear o4
    clear HR7 HO7 HD7 HY7
    obtain ⟨y0, y1, y2, y3, y4, y5, y6, yz⟩ := boxN7 HY8.out
    go_upto_region 18 with (fail)
    clear y0 y1 y2 y3 y4 y5 y6 yz
    have hy9 := heap_set (o := 5) HY8.out (.slice ar8 lr8 cr8)
    have hy9 : (w8.setCell ⟨Y, 5, none⟩ (.slice ar8 lr8 cr8)).heap[Y]? = some (.cells #[.int .u8 2, .string ⟨#[]⟩, .string ⟨s6.toArray⟩, .string ⟨#[]⟩, .slice none 0 0, .slice ar8 lr8 cr8, .slice none 0 0] 53 (0, 0)) := by simpa using hy9
    have os9 : Only (fun k => k = Y) w8 (w8.setCell ⟨Y, 5, none⟩ (.slice ar8 lr8 cr8)) := (Only.refl (fun k => k = Y) _).setCell (p := ⟨Y, 5, none⟩) (.inl rfl) _
    obtain ⟨w9, hw9⟩ : ∃ x, w8.setCell ⟨Y, 5, none⟩ (.slice ar8 lr8 cr8) = x := ⟨_, rfl⟩
    rw [hw9] at hy9 os9
    rw [hw9]
    clear hw9
    have HY9 := Lib.hid hy9; have HD9 := Lib.hid (HD8.out.only os9 (fun k hk e => by omega)); have HJ9 := HJ8
    have hr9 := (os9.block B (Array.getElem?_eq_some_iff.1 HR8.out).1 (by omega)).trans HR8.out
    have HR9 := Lib.hid hr9
    have HC8_9 := Lib.hid (HC8_8.out.trans' os9 (fun q hq e => by have e : q = Y := e; show q ≤ Y; omega))
    have HO9 := Lib.hid (HO8.out.trans' os9 (fun q hq e => by have e : q = Y := e; have := HWB.out; omega))
    clear hr9
    clear hy9 os9 HJ8
    clear HR8 HO8 HD8 HY8 HC8_8
    obtain ⟨y0, y1, y2, y3, y4, y5, y6, yz⟩ := boxN7 HY9.out
    go_wp2_with ((refine wpList_store_box (o := ⟨none, _, _, _, _, _⟩) rfl 53 (.tmp 2) (.tmp 46) (by rfl) B [.int .u8 0, .string ⟨#[]⟩, .string ⟨#[]⟩, .string ⟨#[]⟩, .slice none 0 0, .slice none 0 0, .slice none 0 0] [.int .u8 2, .string ⟨#[]⟩, .string ⟨s6.toArray⟩, .string ⟨#[]⟩, .slice none 0 0, .slice ar8 lr8 cr8, .slice none 0 0] (by rfl) (by rfl) HR9.out (by rfl) (by kernel_rfl) (by intro u hu; simp at hu; rcases hu with rfl | rfl | rfl | rfl | rfl | rfl | rfl <;> rfl) ?_; intro w9 k1 k2))
    clear y0 y1 y2 y3 y4 y5 y6 yz
    obtain ⟨y0, y1, y2, y3, y4, y5, y6, -⟩ := boxN7 k1
    obtain ⟨hdn, hxs⟩ := HJ9.out.done
    have hd9 : Rf w9 b all total.unit := by rw [← hdn]; exact HD9.out.only k2 (fun k hk e => by omega)
    have o8 := HC8_9.out.trans' k2 (fun q hq e => by have e : q = B := e; show q ≤ Y; omega)
    have hag : ∀ x q, total = .ok x q → aggP B selC w9 x (.agg #[.int .u8 2, .string ⟨#[]⟩, .string ⟨s6.toArray⟩, .string ⟨#[]⟩, .slice none 0 0, .slice ar8 lr8 cr8, .slice none 0 0]) := fun x q e => by
     obtain ⟨⟨⟨u, n1⟩, x4⟩, rfl, ⟨⟨-, k1⟩, k4⟩⟩ := hxs x q e
     subst k1
     exact ⟨_, rfl, CellsAt.lit rfl (CellsAt.lit rfl (CellsAt.lit rfl (CellsAt.lit rfl (CellsAt.cons (CellAt.nilRow _ _ _) (CellsAt.cons (CellAt.weaken (G' := fun q => B ≤ q) (fun q _ h => by have h : Y < q := h; show B ≤ q; omega) _ _ (CellAt.only o8 (fun k hk e => by have hk : Y < k := hk; have e : k ≤ Y := e; omega) _ _ k4)) (CellsAt.cons (by rw [selCs]; exact CellAt.nilRow _ _ _) (CellsAt.nil _ _)))))))⟩
    exact bodyPost_ret (v := .agg #[.int .u8 2, .string ⟨#[]⟩, .string ⟨s6.toArray⟩, .string ⟨#[]⟩, .slice none 0 0, .slice ar8 lr8 cr8, .slice none 0 0]) (by simp [results, Tryz.results71, go_sem, y0, y1, y2, y3, y4, y5, y6]) rfl (HPP.out w9 _ ⟨2, [], s6, [], none, 0, 0, ar8, lr8, cr8, none, 0, 0, rfl⟩ hd9 hag (HO9.out.trans' k2 (fun q hq e => by have := HWB.out; omega)))
  ·
   rw [if_pos rfl] at J
   go_wp2_with fail
   refine J.out.mono ?_
   rintro e w3 ⟨rfl, hd, o4⟩
   have HJ3 := Lib.hid (Jn.adv (F := fun (_ : Unit) r => (nameP r).bind fun s r1 => (dirsP d (r1.length + 1) [] r1).bind fun ds r2 => (setP d r2).bind fun sub r3 => .ok (SL.mk 3 [] [] s [] ds sub) r3) (HJ2.out.yes HBT.out))
   obtain ⟨σ3, hσ⟩ : ∃ z, adv σ1 = z := ⟨_, rfl⟩
   rw [hσ] at hd HJ3
   clear hσ
   have HD3 := Lib.hid hd
   clear HJ2 hd HBT J
   have hr3 := (o4.block B (Array.getElem?_eq_some_iff.1 HR2.out).1 (by omega)).trans HR2.out
   have HR3 := Lib.hid hr3
   have hy3 := (o4.block Y (Array.getElem?_eq_some_iff.1 HY2.out).1 (by omega)).trans HY2.out
   have HY3 := Lib.hid hy3
   have HO3 := Lib.hid (HO2.out.trans' o4 (fun q hq e => by exact e))
   clear hr3 hy3
   clear o4
   clear HR2 HO2 HD2 HY2
   have J := Lib.hid (fName_any b all σ3 w3 HD3.out)
   go_wp2_with fail
   refine J.out.mono ?_
   rintro e w4 ⟨v, rfl, ⟨s4, rfl⟩, hd, hv, o4⟩
   have hv : ∀ x q, (σ3.bind fun _ => nameP) = .ok x q → s4 = x := fun x q e => strF_inj (hv x q e)
   obtain ⟨σ4, hσ⟩ : ∃ z, (σ3.bind fun _ => nameP).unit = z := ⟨_, rfl⟩
   rw [hσ] at hd
   have hj := Jn.call (fun x => s4 = x) HJ3.out hσ.symm hv
   have HJ4 := Lib.hid hj; have HD4 := Lib.hid hd
   clear hj hd hv hσ HJ3 J
   have hr4 := (o4.block B (Array.getElem?_eq_some_iff.1 HR3.out).1 (by omega)).trans HR3.out
   have HR4 := Lib.hid hr4
   have hy4 := (o4.block Y (Array.getElem?_eq_some_iff.1 HY3.out).1 (by omega)).trans HY3.out
   have HY4 := Lib.hid hy4
   have HO4 := Lib.hid (HO3.out.trans' o4 (fun q hq e => by exact e))
   clear hr4 hy4
   clear o4
   clear HR3 HO3 HD3 HY3
   obtain ⟨y0, y1, y2, y3, y4, y5, y6, yz⟩ := boxN7 HY4.out
   go_upto_region 19 with (fail)
   clear y0 y1 y2 y3 y4 y5 y6 yz
   have hy5 := heap_set (o := 3) HY4.out (.string ⟨s4.toArray⟩)
   have hy5 : (w4.setCell ⟨Y, 3, none⟩ (.string ⟨s4.toArray⟩)).heap[Y]? = some (.cells #[.int .u8 3, .string ⟨#[]⟩, .string ⟨#[]⟩, .string ⟨s4.toArray⟩, .slice none 0 0, .slice none 0 0, .slice none 0 0] 53 (0, 0)) := by simpa using hy5
   have os5 : Only (fun k => k = Y) w4 (w4.setCell ⟨Y, 3, none⟩ (.string ⟨s4.toArray⟩)) := (Only.refl (fun k => k = Y) _).setCell (p := ⟨Y, 3, none⟩) (.inl rfl) _
   obtain ⟨w5, hw5⟩ : ∃ x, w4.setCell ⟨Y, 3, none⟩ (.string ⟨s4.toArray⟩) = x := ⟨_, rfl⟩
   rw [hw5] at hy5 os5
   rw [hw5]
   clear hw5
   have HY5 := Lib.hid hy5; have HD5 := Lib.hid (HD4.out.only os5 (fun k hk e => by omega)); have HJ5 := HJ4
   have hr5 := (os5.block B (Array.getElem?_eq_some_iff.1 HR4.out).1 (by omega)).trans HR4.out
   have HR5 := Lib.hid hr5
   have HO5 := Lib.hid (HO4.out.trans' os5 (fun q hq e => by have e : q = Y := e; have := HWB.out; omega))
   clear hr5
   clear hy5 os5 HJ4
   clear HR4 HO4 HD4 HY4
   have J := Lib.hid (fdirs_any d b all HDP.out σ4 w5 HD5.out)
   go_wp2_with fail
   refine J.out.mono ?_
   rintro e w6 ⟨v, rfl, ⟨ar6, lr6, cr6, rfl⟩, hd, hv, o4⟩
   have hsy : Y < w5.heap.size := (Array.getElem?_eq_some_iff.1 HY5.out).1
   have hv : ∀ x q, (σ4.bind fun _ => (fun r => dirsP d (r.length + 1) [] r)) = .ok x q → CellAt w6 (fun q => Y < q) (.row 2 (x.map dirC)) (.slice ar6 lr6 cr6) := fun x q e => CellAt.weaken (fun q _ h => by have h : w5.heap.size ≤ q := h; show Y < q; omega) _ _ (hv x q e)
   obtain ⟨σ6, hσ⟩ : ∃ z, (σ4.bind fun _ => (fun r => dirsP d (r.length + 1) [] r)).unit = z := ⟨_, rfl⟩
   rw [hσ] at hd
   have hj := Jn.call (fun x => CellAt w6 (fun q => Y < q) (.row 2 (x.map dirC)) (.slice ar6 lr6 cr6)) HJ5.out hσ.symm hv
   have HJ6 := Lib.hid hj; have HD6 := Lib.hid hd
   clear hj hd hv hσ HJ5 J hsy
   have hr6 := (o4.block B (Array.getElem?_eq_some_iff.1 HR5.out).1 (by omega)).trans HR5.out
   have HR6 := Lib.hid hr6
   have hy6 := (o4.block Y (Array.getElem?_eq_some_iff.1 HY5.out).1 (by omega)).trans HY5.out
   have HY6 := Lib.hid hy6
   have HO6 := Lib.hid (HO5.out.trans' o4 (fun q hq e => by exact e))
   clear hr6 hy6
   have HC6_6 := Lib.hid (Only.refl (fun k => k ≤ Y) w6)
   clear o4
   clear HR5 HO5 HD5 HY5
   obtain ⟨y0, y1, y2, y3, y4, y5, y6, yz⟩ := boxN7 HY6.out
   go_upto_region 20 with (fail)
   clear y0 y1 y2 y3 y4 y5 y6 yz
   have hy7 := heap_set (o := 5) HY6.out (.slice ar6 lr6 cr6)
   have hy7 : (w6.setCell ⟨Y, 5, none⟩ (.slice ar6 lr6 cr6)).heap[Y]? = some (.cells #[.int .u8 3, .string ⟨#[]⟩, .string ⟨#[]⟩, .string ⟨s4.toArray⟩, .slice none 0 0, .slice ar6 lr6 cr6, .slice none 0 0] 53 (0, 0)) := by simpa using hy7
   have os7 : Only (fun k => k = Y) w6 (w6.setCell ⟨Y, 5, none⟩ (.slice ar6 lr6 cr6)) := (Only.refl (fun k => k = Y) _).setCell (p := ⟨Y, 5, none⟩) (.inl rfl) _
   obtain ⟨w7, hw7⟩ : ∃ x, w6.setCell ⟨Y, 5, none⟩ (.slice ar6 lr6 cr6) = x := ⟨_, rfl⟩
   rw [hw7] at hy7 os7
   rw [hw7]
   clear hw7
   have HY7 := Lib.hid hy7; have HD7 := Lib.hid (HD6.out.only os7 (fun k hk e => by omega)); have HJ7 := HJ6
   have hr7 := (os7.block B (Array.getElem?_eq_some_iff.1 HR6.out).1 (by omega)).trans HR6.out
   have HR7 := Lib.hid hr7
   have HC6_7 := Lib.hid (HC6_6.out.trans' os7 (fun q hq e => by have e : q = Y := e; show q ≤ Y; omega))
   have HO7 := Lib.hid (HO6.out.trans' os7 (fun q hq e => by have e : q = Y := e; have := HWB.out; omega))
   clear hr7
   clear hy7 os7 HJ6
   clear HR6 HO6 HD6 HY6 HC6_6
   have J := Lib.hid (IH.out σ6 w7 HD7.out)
   go_wp2_with fail
   refine J.out.mono ?_
   rintro e w8 ⟨v, rfl, ⟨ar8, lr8, cr8, rfl⟩, hd, hv, o4⟩
   have hsy : Y < w7.heap.size := (Array.getElem?_eq_some_iff.1 HY7.out).1
   have hv : ∀ x q, (σ6.bind fun _ => (setP d)) = .ok x q → CellAt w8 (fun q => Y < q) (.row 7 (x.map selC)) (.slice ar8 lr8 cr8) := fun x q e => CellAt.weaken (fun q _ h => by have h : w7.heap.size ≤ q := h; show Y < q; omega) _ _ (hv x q e)
   obtain ⟨σ8, hσ⟩ : ∃ z, (σ6.bind fun _ => (setP d)).unit = z := ⟨_, rfl⟩
   rw [hσ] at hd
   have hj := Jn.call (fun x => CellAt w8 (fun q => Y < q) (.row 7 (x.map selC)) (.slice ar8 lr8 cr8)) HJ7.out hσ.symm hv
   have HJ8 := Lib.hid hj; have HD8 := Lib.hid hd
   clear hj hd hv hσ HJ7 J hsy
   have hr8 := (o4.block B (Array.getElem?_eq_some_iff.1 HR7.out).1 (by omega)).trans HR7.out
   have HR8 := Lib.hid hr8
   have hy8 := (o4.block Y (Array.getElem?_eq_some_iff.1 HY7.out).1 (by omega)).trans HY7.out
   have HY8 := Lib.hid hy8
   have HC6_8 := Lib.hid (HC6_7.out.trans' o4 (fun q hq e => by have e : q = b := e; show q ≤ Y; omega))
   have HO8 := Lib.hid (HO7.out.trans' o4 (fun q hq e => by exact e))
   clear hr8 hy8
   have HC8_8 := Lib.hid (Only.refl (fun k => k ≤ Y) w8)
   clear o4
   clear HR7 HO7 HD7 HY7 HC6_7
   obtain ⟨y0, y1, y2, y3, y4, y5, y6, yz⟩ := boxN7 HY8.out
   go_upto_region 21 with (fail)
   clear y0 y1 y2 y3 y4 y5 y6 yz
   have hy9 := heap_set (o := 6) HY8.out (.slice ar8 lr8 cr8)
   have hy9 : (w8.setCell ⟨Y, 6, none⟩ (.slice ar8 lr8 cr8)).heap[Y]? = some (.cells #[.int .u8 3, .string ⟨#[]⟩, .string ⟨#[]⟩, .string ⟨s4.toArray⟩, .slice none 0 0, .slice ar6 lr6 cr6, .slice ar8 lr8 cr8] 53 (0, 0)) := by simpa using hy9
   have os9 : Only (fun k => k = Y) w8 (w8.setCell ⟨Y, 6, none⟩ (.slice ar8 lr8 cr8)) := (Only.refl (fun k => k = Y) _).setCell (p := ⟨Y, 6, none⟩) (.inl rfl) _
   obtain ⟨w9, hw9⟩ : ∃ x, w8.setCell ⟨Y, 6, none⟩ (.slice ar8 lr8 cr8) = x := ⟨_, rfl⟩
   rw [hw9] at hy9 os9
   rw [hw9]
   clear hw9
   have HY9 := Lib.hid hy9; have HD9 := Lib.hid (HD8.out.only os9 (fun k hk e => by omega)); have HJ9 := HJ8
   have hr9 := (os9.block B (Array.getElem?_eq_some_iff.1 HR8.out).1 (by omega)).trans HR8.out
   have HR9 := Lib.hid hr9
   have HC6_9 := Lib.hid (HC6_8.out.trans' os9 (fun q hq e => by have e : q = Y := e; show q ≤ Y; omega))
   have HC8_9 := Lib.hid (HC8_8.out.trans' os9 (fun q hq e => by have e : q = Y := e; show q ≤ Y; omega))
   have HO9 := Lib.hid (HO8.out.trans' os9 (fun q hq e => by have e : q = Y := e; have := HWB.out; omega))
   clear hr9
   clear hy9 os9 HJ8
   clear HR8 HO8 HD8 HY8 HC6_8 HC8_8
   obtain ⟨y0, y1, y2, y3, y4, y5, y6, yz⟩ := boxN7 HY9.out
   go_wp2_with ((refine wpList_store_box (o := ⟨none, _, _, _, _, _⟩) rfl 53 (.tmp 2) (.tmp 53) (by rfl) B [.int .u8 0, .string ⟨#[]⟩, .string ⟨#[]⟩, .string ⟨#[]⟩, .slice none 0 0, .slice none 0 0, .slice none 0 0] [.int .u8 3, .string ⟨#[]⟩, .string ⟨#[]⟩, .string ⟨s4.toArray⟩, .slice none 0 0, .slice ar6 lr6 cr6, .slice ar8 lr8 cr8] (by rfl) (by rfl) HR9.out (by rfl) (by kernel_rfl) (by intro u hu; simp at hu; rcases hu with rfl | rfl | rfl | rfl | rfl | rfl | rfl <;> rfl) ?_; intro w9 k1 k2))
   clear y0 y1 y2 y3 y4 y5 y6 yz
   obtain ⟨y0, y1, y2, y3, y4, y5, y6, -⟩ := boxN7 k1
   obtain ⟨hdn, hxs⟩ := HJ9.out.done
   have hd9 : Rf w9 b all total.unit := by rw [← hdn]; exact HD9.out.only k2 (fun k hk e => by omega)
   have o6 := HC6_9.out.trans' k2 (fun q hq e => by have e : q = B := e; show q ≤ Y; omega)
   have o8 := HC8_9.out.trans' k2 (fun q hq e => by have e : q = B := e; show q ≤ Y; omega)
   have hag : ∀ x q, total = .ok x q → aggP B selC w9 x (.agg #[.int .u8 3, .string ⟨#[]⟩, .string ⟨#[]⟩, .string ⟨s4.toArray⟩, .slice none 0 0, .slice ar6 lr6 cr6, .slice ar8 lr8 cr8]) := fun x q e => by
    obtain ⟨⟨⟨⟨u, n1⟩, x4⟩, x5⟩, rfl, ⟨⟨⟨-, k1⟩, k4⟩, k5⟩⟩ := hxs x q e
    subst k1
    exact ⟨_, rfl, CellsAt.lit rfl (CellsAt.lit rfl (CellsAt.lit rfl (CellsAt.lit rfl (CellsAt.cons (CellAt.nilRow _ _ _) (CellsAt.cons (CellAt.weaken (G' := fun q => B ≤ q) (fun q _ h => by have h : Y < q := h; show B ≤ q; omega) _ _ (CellAt.only o6 (fun k hk e => by have hk : Y < k := hk; have e : k ≤ Y := e; omega) _ _ k4)) (CellsAt.cons (by rw [selCs_map]; exact CellAt.weaken (G' := fun q => B ≤ q) (fun q _ h => by have h : Y < q := h; show B ≤ q; omega) _ _ (CellAt.only o8 (fun k hk e => by have hk : Y < k := hk; have e : k ≤ Y := e; omega) _ _ k5)) (CellsAt.nil _ _)))))))⟩
   exact bodyPost_ret (v := .agg #[.int .u8 3, .string ⟨#[]⟩, .string ⟨#[]⟩, .string ⟨s4.toArray⟩, .slice none 0 0, .slice ar6 lr6 cr6, .slice ar8 lr8 cr8]) (by simp [results, Tryz.results71, go_sem, y0, y1, y2, y3, y4, y5, y6]) rfl (HPP.out w9 _ ⟨3, [], [], s4, none, 0, 0, ar6, lr6, cr6, ar8, lr8, cr8, rfl⟩ hd9 hag (HO9.out.trans' k2 (fun q hq e => by have := HWB.out; omega)))
end Go.Proofs.YtnkpoddbbdmipaaGreatDoor
