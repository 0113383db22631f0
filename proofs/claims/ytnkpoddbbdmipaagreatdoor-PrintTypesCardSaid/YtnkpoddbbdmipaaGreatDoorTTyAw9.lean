/- . -/
import Derived.Test.YtnkpoddbbdmipaaGreatDoorTTyPpd
import Derived.Test.YtnkpoddbbdmipaaGreatDoorTTyRha
import Derived.Test.YtnkpoddbbdmipaaGreatDoorTTyRtks
namespace Go.Proofs.YtnkpoddbbdmipaaGreatDoor
open Go Go.RowKit
open Go.Lib (hid)
set_option linter.unusedVariables false
set_option linter.unusedSimpArgs false
def awkT8 : List UInt8 := [123, 97, 58, 98, 40, 99, 58, 91, 49, 44, 50, 93, 41, 46, 46, 46, 70, 125]
def awkS8 : List SL := [.mk 1 [97] [98] [] [⟨[99], .mk 5 0 [] [] [.mk 1 1 [] [] [], .mk 1 2 [] [] []]⟩] [] [], .mk 2 [] [70] [] [] [] []]
def awkD8 : DC := ⟨[⟨false, [], [], awkS8⟩], []⟩
def awkP8 : List UInt8 := [113, 117, 101, 114, 121, 32, 123, 32, 97, 58, 32, 98, 40, 99, 58, 32, 91, 49, 44, 32, 50, 93, 41, 32, 46, 46, 46, 70, 32, 125]
def tk9 : List Tok := [⟨4, [123], 0, 0⟩, ⟨1, [97], 0, 1⟩, ⟨4, [58], 0, 2⟩, ⟨1, [98], 0, 3⟩, ⟨4, [40], 0, 4⟩, ⟨1, [99], 0, 5⟩, ⟨4, [58], 0, 6⟩, ⟨4, [91], 0, 7⟩, ⟨2, [49], 1, 8⟩, ⟨2, [50], 2, 10⟩, ⟨4, [93], 0, 11⟩, ⟨4, [41], 0, 12⟩, ⟨4, [46, 46, 46], 0, 13⟩, ⟨1, [70], 0, 16⟩, ⟨4, [125], 0, 17⟩, ⟨0, [], 0, 18⟩]
set_option maxRecDepth 100000 in
theorem tk9_toks : toks awkT8 = .ok tk9 := by kernel_rfl
def S9 (k : Nat) : PR Unit := .ok () (tk9.drop k)
set_option maxRecDepth 100000 in
theorem awk8_text : ren (docI awkD8) = awkP8 := by kernel_rfl
set_option maxRecDepth 100000 in
set_option maxHeartbeats 4000000 in
theorem fdirs9 (n : Nat) (b : Nat) (all : RL) (σ0 : PR Unit) (w : World) (h : Rf w b all σ0) (hb : tst σ0 (isT [64]) = false) :
  Calls Tryz.prog 94 #[.pointer (some ⟨b, 0, none⟩)] w (FAns w b all σ0 (rowP w.heap.size 2 dirC) rowF (fun r => dirsP n (r.length + 1) [] r)) := by
 have T := hid (fEat_any b all σ0 [64] w h); unfold tookF at T; rw [hb, if_neg (by decide)] at T; have hp : (σ0.bind fun _ => (fun r => dirsP n (r.length + 1) [] r)) = σ0.bind fun _ r => .ok [] r := by
  cases σ0 with
  | bad a c => rfl
  | ok u r =>
   have hb : isT [64] r = false := hb
   show dirsP n (r.length + 1) [] r = .ok [] r
   rw [dirsP, if_neg (by rw [hb]; decide)]
 have HP := hid (show ∀ w', Rf w' b all σ0 → Only (fun k => k = b) w w' → FAns w b all σ0 (rowP w.heap.size 2 dirC) rowF (fun r => dirsP n (r.length + 1) [] r) (.returned (.slice none 0 0)) w' from fun w' h1 h2 => ⟨_, rfl, ⟨none, 0, 0, rfl⟩, by rw [hp]; cases σ0 <;> exact h1, fun x q e => by rw [hp] at e; cases σ0 with
  | bad a c => cases e
  | ok u r => injection e with e _; subst e; exact CellAt.nilRow _ _ _, h2⟩)
 clear h hp hb
 generalize (FAns w b all σ0 (rowP w.heap.size 2 dirC) rowF (fun r => dirsP n (r.length + 1) [] r)) = Q at *
 obtain ⟨W0, hW⟩ := eX (w); rw [hW] at T HP
 go_enter Tryz.func94, Tryz.ntmps94
 go_wp2_with fail
 go_loopw [3] (fun v3 wr => v3 = .slice none 0 0 ∧ Hid (wr = W0)) (fun _ _ => 0)
 case atStart => exact ⟨rfl, hid hW⟩
 case round =>
  obtain ⟨rfl, hrel⟩ := hrel; obtain ⟨wq, hq⟩ := eX (wr); have hwq : wq = W0 := hq.symm.trans hrel.out; subst hwq; rw [hq]; clear hW hq hrel
  go_wp2_with fail
  refine T.out.mono ?_
  rintro e w4 ⟨rfl, hd4, o4⟩; have HE := hid (HP.out w4 hd4 o4); clear hd4 o4
  go_wp2_with fail
  first
   | exact HE.out
   | (go_ret; exact HE.out)
def seF (v : Value) : Prop := ∃ (k : Nat) (s0 s1 s2 : List UInt8) (a1 : Option Addr) (l1 e1 : Nat) (a2 : Option Addr) (l2 e2 : Nat) (a3 : Option Addr) (l3 e3 : Nat), v = .agg #[.int .u8 (k : Int), .string ⟨s0.toArray⟩, .string ⟨s1.toArray⟩, .string ⟨s2.toArray⟩, .slice a1 l1 e1, .slice a2 l2 e2, .slice a3 l3 e3]
def selQ (d : Nat) (g : List Tok → PR (List SL)) (al nm : List UInt8) (r : List Tok) : PR SL :=
 (argsP d r).bind fun gs r3 => (dirsP d (r3.length + 1) [] r3).bind fun ds r4 => if isS [123] r4 then (g r4).bind fun sub r5 => .ok (.mk 1 al nm [] gs ds sub) r5 else .ok (.mk 1 al nm [] gs ds []) r4
theorem selP_fun (d : Nat) (g : List Tok → PR (List SL)) : selP d g = fun r =>
  if isT wDots r then
   if isT wOn r.tail then (nameP r.tail.tail).bind fun s r1 => (dirsP d (r1.length + 1) [] r1).bind fun ds r2 => (g r2).bind fun sub r3 => .ok (.mk 3 [] [] s [] ds sub) r3
   else if isK 1 r.tail then (nameP r.tail).bind fun s r1 => (dirsP d (r1.length + 1) [] r1).bind fun ds r2 => .ok (.mk 2 [] s [] [] ds []) r2
   else (dirsP d (r.tail.length + 1) [] r.tail).bind fun ds r2 => (g r2).bind fun sub r3 => .ok (.mk 3 [] [] [] [] ds sub) r3
  else (nameP r).bind fun s r1 => if isT [58] r1 then (nameP r1.tail).bind fun s2 r2 => selQ d g s s2 r2 else selQ d g [] s r1 := by
 funext r
 unfold selP
 by_cases h : isT wDots r = true
 ·rw [if_pos h, if_pos h]
 ·rw [if_neg h, if_neg h]
  congr 1
  funext s r1
  have hq : ∀ (p : List UInt8 × List UInt8) (r2 : List Tok), ((argsP d r2).bind fun gs r3 => (dirsP d (r3.length + 1) [] r3).bind fun ds r4 => (if isS [123] r4 then g r4 else .ok [] r4).bind fun sub r5 => .ok (.mk 1 p.1 p.2 [] gs ds sub) r5) = selQ d g p.1 p.2 r2 := fun p r2 => by
   unfold selQ
   congr 1
   funext gs r3
   congr 1
   funext ds r4
   by_cases hb : isS [123] r4 = true
   ·rw [if_pos hb, if_pos hb]
   ·rw [if_neg hb, if_neg hb]; rfl
  by_cases hb : isT [58] r1 = true
  ·rw [if_pos hb, if_pos hb]
   cases hn : nameP r1.tail with
   | bad a e => rfl
   | ok s2 r2 => exact hq (s, s2) r2
  ·rw [if_neg hb, if_neg hb]; exact hq ([], s) r1
set_option maxRecDepth 100000 in
set_option maxHeartbeats 8000000 in
theorem fsel9a (b : Nat) (all : RL) (hdp : all.dp + 23 = 24) (w : World) (h : Rf w b all (S9 1)) :
  Calls Tryz.prog 71 #[.pointer (some ⟨b, 0, none⟩)] w (FAns w b all (S9 1) (fun w' x v => aggP w.heap.size selC w' x v) seF (selP 23 (setP 23))) := by
 have hbl := h.lt; obtain ⟨B, hB⟩ := eX (w.heap.size); have hbB : b < B := by omega
 obtain ⟨total, htot⟩ := eX (((S9 1).bind fun _ => (selP 23 (setP 23)))); have hj := Jn.start (S9 1) (selP 23 (setP 23)); rw [htot] at hj; have HP : ∀ w' v, seF v → Rf w' b all total.unit → (∀ x q, total = .ok x q → aggP B selC w' x v) → Only (fun k => k = b) w w' → FAns w b all (S9 1) (fun w' x v => aggP w.heap.size selC w' x v) seF (selP 23 (setP 23)) (.returned v) w' := fun w' v q1 q2 q3 q4 => ⟨v, rfl, q1, by rw [htot]; exact q2, fun x q e => by rw [hB]; exact q3 x q (by rw [← htot]; exact e), q4⟩
 rw [selP_fun] at hj; obtain ⟨w0, hw0⟩ := eX (w.alloc (.cells #[.int .u8 0, .string ⟨#[]⟩, .string ⟨#[]⟩, .string ⟨#[]⟩, .slice none 0 0, .slice none 0 0, .slice none 0 0] 53)); have hr0 : w0.heap[B]? = some (.cells #[.int .u8 0, .string ⟨#[]⟩, .string ⟨#[]⟩, .string ⟨#[]⟩, .slice none 0 0, .slice none 0 0, .slice none 0 0] 53 (0, 0)) := by rw [← hw0, ← hB]; exact heap_new _ _
 have ho0 : Only (fun k => k = b) w w0 := by rw [← hw0]; exact (Only.refl _ w).alloc _
 have h0 : Rf w0 b all (S9 1) := by rw [← hw0]; exact h.still ((Only.refl (fun _ => False) w).alloc _)
 have HPP := hid HP; have HJ0 := hid hj; have HR0 := hid hr0; have HD0 := hid h0; have HO0 := hid ho0; have HW0 := hid hw0; have HBB := hid hB; have HWB := hid (show w.heap.size ≤ B by omega); have HDP := hid hdp; clear hdp; clear HP hj hr0 h0 ho0 hw0 htot h
 generalize (FAns w b all (S9 1) (fun w' x v => aggP w.heap.size selC w' x v) seF (selP 23 (setP 23))) = Q at *
 clear hB hbl
 go_enter Tryz.func71, Tryz.ntmps71
 go_upto_region 1 with (fail)
 rw [HBB.out, HW0.out]; clear HW0 HBB; have J := hid (fEat_any b all (S9 1) [46, 46, 46] w0 HD0.out); unfold tookF at J; have hb : tst (S9 1) (isT [46, 46, 46]) = false := by kernel_rfl
 rw [hb, if_neg (by decide)] at J; have HBT := hid hb; clear hb
 go_wp2_with fail
 refine J.out.mono ?_
 rintro e w1 ⟨rfl, hd, o4⟩; have HJ1 := hid (HJ0.out.no HBT.out); have HD1 := hid hd; clear HJ0 hd HBT J; have hr1 := kB o4 HR0.out (by omega); have HR1 := hid hr1; have HO1 := hid (HO0.out.trans' o4 (fun q hq e => by exact e)); clear hr1; clear o4; clear HR0 HO0 HD0; have J := hid (fName_any b all (S9 1) w1 HD1.out)
 go_wp2_with fail
 refine J.out.mono ?_
 rintro e w2 ⟨v, rfl, ⟨s2, rfl⟩, hd, hv, o4⟩; have hv : ∀ x q, ((S9 1).bind fun _ => nameP) = .ok x q → s2 = x := fun x q e => strF_inj (hv x q e)
 have hσ : ((S9 1).bind fun _ => nameP).unit = S9 2 := by kernel_rfl
 rw [hσ] at hd; have hj := Jn.call (fun x => s2 = x) HJ1.out hσ.symm hv; have HJ2 := hid hj; have HD2 := hid hd; clear hj hd hv hσ HJ1 J; have hr2 := kB o4 HR1.out (by omega); have HR2 := hid hr2; have HO2 := hid (HO1.out.trans' o4 (fun q hq e => by exact e)); clear hr2; clear o4; clear HR1 HO1 HD1; have hsz3 : B < w2.heap.size := (gE HR2.out).1; obtain ⟨Y, hY⟩ := eX (w2.heap.size); obtain ⟨w3, hw3⟩ := eX (w2.alloc (.cells #[.int .u8 1, .string ⟨#[]⟩, .string ⟨s2.toArray⟩, .string ⟨#[]⟩, .slice none 0 0, .slice none 0 0, .slice none 0 0] 53)); have hy3 : w3.heap[Y]? = some (.cells #[.int .u8 1, .string ⟨#[]⟩, .string ⟨s2.toArray⟩, .string ⟨#[]⟩, .slice none 0 0, .slice none 0 0, .slice none 0 0] 53 (0, 0)) := by rw [← hw3, ← hY]; exact heap_new _ _
 have hr3 : w3.heap[B]? = some (.cells #[.int .u8 0, .string ⟨#[]⟩, .string ⟨#[]⟩, .string ⟨#[]⟩, .slice none 0 0, .slice none 0 0, .slice none 0 0] 53 (0, 0)) := by rw [← hw3]; exact heap_old HR2.out _
 have oa3 : Only (fun _ => False) w2 w3 := by rw [← hw3]; exact (Only.refl _ _).alloc _
 rw [hY] at hsz3; have HY3 := hid hy3; have HR3 := hid hr3; have HD3 := hid (HD2.out.still oa3); have HO3 := hid (HO2.out.trans' oa3 (fun q _ e => e.elim)); have HW3 := hid hw3; have HYY := hid hY; have HJ3 := HJ2; clear hy3 hr3 hw3 hY oa3 HR2 HD2 HO2 HJ2
 go_upto_region 3 with (fail)
 rw [HYY.out, HW3.out]; clear HYY HW3; have J := hid (fEat_any b all (S9 2) [58] w3 HD3.out); unfold tookF at J; have hb : tst (S9 2) (isT [58]) = true := by kernel_rfl
 rw [hb, if_pos rfl] at J; have HBT := hid hb; clear hb
 go_wp2_with fail
 refine J.out.mono ?_
 rintro e w4 ⟨rfl, hd, o4⟩; have HJ4 := hid (Jn.adv (F := fun (p : Unit × List UInt8) r => (nameP r).bind fun s2 r2 => selQ 23 (setP 23) p.2 s2 r2) (HJ3.out.yes HBT.out)); have hσ : adv (S9 2) = S9 3 := by kernel_rfl
 rw [hσ] at hd HJ4; clear hσ; have HD4 := hid hd; clear HJ3 hd HBT J; have hr4 := kB o4 HR3.out (by omega); have HR4 := hid hr4; have hy4 := kB o4 HY3.out (by omega); have HY4 := hid hy4; have HO4 := hid (HO3.out.trans' o4 (fun q hq e => by exact e)); clear hr4 hy4; clear o4; clear HR3 HO3 HD3 HY3; obtain ⟨y0, y1, y2, y3, y4, y5, y6, yz⟩ := boxN7 HY4.out
 go_upto_region 5 with (fail)
 clear y0 y1 y2 y3 y4 y5 y6 yz; have hy5 := heap_set (o := 1) HY4.out (.string ⟨s2.toArray⟩); have hy5 : (w4.setCell ⟨Y, 1, none⟩ (.string ⟨s2.toArray⟩)).heap[Y]? = some (.cells #[.int .u8 1, .string ⟨s2.toArray⟩, .string ⟨s2.toArray⟩, .string ⟨#[]⟩, .slice none 0 0, .slice none 0 0, .slice none 0 0] 53 (0, 0)) := by simpa using hy5
 have os5 : Only (fun k => k = Y) w4 (w4.setCell ⟨Y, 1, none⟩ (.string ⟨s2.toArray⟩)) := (Only.refl (fun k => k = Y) _).setCell (p := ⟨Y, 1, none⟩) (.inl rfl) _; obtain ⟨w5, hw5⟩ := eX (w4.setCell ⟨Y, 1, none⟩ (.string ⟨s2.toArray⟩)); rw [hw5] at hy5 os5; rw [hw5]; clear hw5; have HY5 := hid hy5; have HD5 := hid (HD4.out.only os5 (fun k hk e => by omega)); have HJ5 := HJ4; have hr5 := kB os5 HR4.out (by omega); have HR5 := hid hr5; have HO5 := hid (HO4.out.trans' os5 (fun q hq e => by have e : q = Y := e; have := HWB.out; omega)); clear hr5; clear hy5 os5 HJ4; clear HR4 HO4 HD4 HY4; have J := hid (fName_any b all (S9 3) w5 HD5.out)
 go_wp2_with fail
 refine J.out.mono ?_
 rintro e w6 ⟨v, rfl, ⟨s6, rfl⟩, hd, hv, o4⟩; have hv : ∀ x q, ((S9 3).bind fun _ => nameP) = .ok x q → s6 = x := fun x q e => strF_inj (hv x q e)
 have hσ : ((S9 3).bind fun _ => nameP).unit = S9 4 := by kernel_rfl
 rw [hσ] at hd; have hj := Jn.call (fun x => s6 = x) HJ5.out hσ.symm hv; have HJ6 := hid hj; have HD6 := hid hd; clear hj hd hv hσ HJ5 J; have hr6 := kB o4 HR5.out (by omega); have HR6 := hid hr6; have hy6 := kB o4 HY5.out (by omega); have HY6 := hid hy6; have HO6 := hid (HO5.out.trans' o4 (fun q hq e => by exact e)); clear hr6 hy6; clear o4; clear HR5 HO5 HD5 HY5; obtain ⟨y0, y1, y2, y3, y4, y5, y6, yz⟩ := boxN7 HY6.out
 go_upto_region 6 with (fail)
 clear y0 y1 y2 y3 y4 y5 y6 yz; have hy7 := heap_set (o := 2) HY6.out (.string ⟨s6.toArray⟩); have hy7 : (w6.setCell ⟨Y, 2, none⟩ (.string ⟨s6.toArray⟩)).heap[Y]? = some (.cells #[.int .u8 1, .string ⟨s2.toArray⟩, .string ⟨s6.toArray⟩, .string ⟨#[]⟩, .slice none 0 0, .slice none 0 0, .slice none 0 0] 53 (0, 0)) := by simpa using hy7
 have os7 : Only (fun k => k = Y) w6 (w6.setCell ⟨Y, 2, none⟩ (.string ⟨s6.toArray⟩)) := (Only.refl (fun k => k = Y) _).setCell (p := ⟨Y, 2, none⟩) (.inl rfl) _; obtain ⟨w7, hw7⟩ := eX (w6.setCell ⟨Y, 2, none⟩ (.string ⟨s6.toArray⟩)); rw [hw7] at hy7 os7; rw [hw7]; clear hw7; have HY7 := hid hy7; have HD7 := hid (HD6.out.only os7 (fun k hk e => by omega)); have HJ7 := HJ6; have hr7 := kB os7 HR6.out (by omega); have HR7 := hid hr7; have HO7 := hid (HO6.out.trans' os7 (fun q hq e => by have e : q = Y := e; have := HWB.out; omega)); clear hr7; clear hy7 os7 HJ6; clear HR6 HO6 HD6 HY6; have HJu := HJ7.out; unfold selQ at HJu; clear HJ7; have HJ7 := hid HJu; clear HJu; have J := hid (fargs_any 23 b all HDP.out (S9 4) w7 HD7.out)
 go_wp2_with fail
 refine J.out.mono ?_
 rintro e w8 ⟨v, rfl, ⟨ar8, lr8, cr8, rfl⟩, hd, hv, o4⟩; have hsy : Y < w7.heap.size := (gE HY7.out).1; have hv : ∀ x q, ((S9 4).bind fun _ => argsP 23) = .ok x q → CellAt w8 (fun q => Y < q) (.row 6 (x.map argC)) (.slice ar8 lr8 cr8) := fun x q e => CellAt.weaken (fun q _ h => by have h : w7.heap.size ≤ q := h; show Y < q; omega) _ _ (hv x q e)
 have hσ : ((S9 4).bind fun _ => argsP 23).unit = S9 12 := by kernel_rfl
 rw [hσ] at hd; have hj := Jn.call (fun x => CellAt w8 (fun q => Y < q) (.row 6 (x.map argC)) (.slice ar8 lr8 cr8)) HJ7.out hσ.symm hv; have HJ8 := hid hj; have HD8 := hid hd; clear hj hd hv hσ HJ7 J hsy; have hr8 := kB o4 HR7.out (by omega); have HR8 := hid hr8; have hy8 := kB o4 HY7.out (by omega); have HY8 := hid hy8; have HO8 := hid (HO7.out.trans' o4 (fun q hq e => by exact e)); clear hr8 hy8; have HC8_8 := hid (Only.refl (fun k => k ≤ Y) w8); clear o4; clear HR7 HO7 HD7 HY7; obtain ⟨y0, y1, y2, y3, y4, y5, y6, yz⟩ := boxN7 HY8.out
 go_upto_region 7 with (fail)
 clear y0 y1 y2 y3 y4 y5 y6 yz; have hy9 := heap_set (o := 4) HY8.out (.slice ar8 lr8 cr8); have hy9 : (w8.setCell ⟨Y, 4, none⟩ (.slice ar8 lr8 cr8)).heap[Y]? = some (.cells #[.int .u8 1, .string ⟨s2.toArray⟩, .string ⟨s6.toArray⟩, .string ⟨#[]⟩, .slice ar8 lr8 cr8, .slice none 0 0, .slice none 0 0] 53 (0, 0)) := by simpa using hy9
 have os9 : Only (fun k => k = Y) w8 (w8.setCell ⟨Y, 4, none⟩ (.slice ar8 lr8 cr8)) := (Only.refl (fun k => k = Y) _).setCell (p := ⟨Y, 4, none⟩) (.inl rfl) _; obtain ⟨w9, hw9⟩ := eX (w8.setCell ⟨Y, 4, none⟩ (.slice ar8 lr8 cr8)); rw [hw9] at hy9 os9; rw [hw9]; clear hw9; have HY9 := hid hy9; have HD9 := hid (HD8.out.only os9 (fun k hk e => by omega)); have HJ9 := HJ8; have hr9 := kB os9 HR8.out (by omega); have HR9 := hid hr9; have HC8_9 := hid (HC8_8.out.trans' os9 (fun q hq e => by have e : q = Y := e; show q ≤ Y; omega)); have HO9 := hid (HO8.out.trans' os9 (fun q hq e => by have e : q = Y := e; have := HWB.out; omega)); clear hr9; clear hy9 os9 HJ8; clear HR8 HO8 HD8 HY8 HC8_8; have J := hid (fdirs9 23 b all (S9 12) w9 HD9.out (by kernel_rfl))
 go_wp2_with fail
 refine J.out.mono ?_
 rintro e w10 ⟨v, rfl, ⟨ar10, lr10, cr10, rfl⟩, hd, hv, o4⟩; have hsy : Y < w9.heap.size := (gE HY9.out).1; have hv : ∀ x q, ((S9 12).bind fun _ => (fun r => dirsP 23 (r.length + 1) [] r)) = .ok x q → CellAt w10 (fun q => Y < q) (.row 2 (x.map dirC)) (.slice ar10 lr10 cr10) := fun x q e => CellAt.weaken (fun q _ h => by have h : w9.heap.size ≤ q := h; show Y < q; omega) _ _ (hv x q e)
 have hσ : ((S9 12).bind fun _ => (fun r => dirsP 23 (r.length + 1) [] r)).unit = S9 12 := by kernel_rfl
 rw [hσ] at hd; have hj := Jn.call (fun x => CellAt w10 (fun q => Y < q) (.row 2 (x.map dirC)) (.slice ar10 lr10 cr10)) HJ9.out hσ.symm hv; have HJ10 := hid hj; have HD10 := hid hd; clear hj hd hv hσ HJ9 J hsy; have hr10 := kB o4 HR9.out (by omega); have HR10 := hid hr10; have hy10 := kB o4 HY9.out (by omega); have HY10 := hid hy10; have HC8_10 := hid (HC8_9.out.trans' o4 (fun q hq e => by have e : q = b := e; show q ≤ Y; omega)); have HO10 := hid (HO9.out.trans' o4 (fun q hq e => by exact e)); clear hr10 hy10; have HC10_10 := hid (Only.refl (fun k => k ≤ Y) w10); clear o4; clear HR9 HO9 HD9 HY9 HC8_9; obtain ⟨y0, y1, y2, y3, y4, y5, y6, yz⟩ := boxN7 HY10.out
 go_upto_region 8 with (fail)
 clear y0 y1 y2 y3 y4 y5 y6 yz; have hy11 := heap_set (o := 5) HY10.out (.slice ar10 lr10 cr10); have hy11 : (w10.setCell ⟨Y, 5, none⟩ (.slice ar10 lr10 cr10)).heap[Y]? = some (.cells #[.int .u8 1, .string ⟨s2.toArray⟩, .string ⟨s6.toArray⟩, .string ⟨#[]⟩, .slice ar8 lr8 cr8, .slice ar10 lr10 cr10, .slice none 0 0] 53 (0, 0)) := by simpa using hy11
 have os11 : Only (fun k => k = Y) w10 (w10.setCell ⟨Y, 5, none⟩ (.slice ar10 lr10 cr10)) := (Only.refl (fun k => k = Y) _).setCell (p := ⟨Y, 5, none⟩) (.inl rfl) _; obtain ⟨w11, hw11⟩ := eX (w10.setCell ⟨Y, 5, none⟩ (.slice ar10 lr10 cr10)); rw [hw11] at hy11 os11; rw [hw11]; clear hw11; have HY11 := hid hy11; have HD11 := hid (HD10.out.only os11 (fun k hk e => by omega)); have HJ11 := HJ10; have hr11 := kB os11 HR10.out (by omega); have HR11 := hid hr11; have HC8_11 := hid (HC8_10.out.trans' os11 (fun q hq e => by have e : q = Y := e; show q ≤ Y; omega)); have HC10_11 := hid (HC10_10.out.trans' os11 (fun q hq e => by have e : q = Y := e; show q ≤ Y; omega)); have HO11 := hid (HO10.out.trans' os11 (fun q hq e => by have e : q = Y := e; have := HWB.out; omega)); clear hr11; clear hy11 os11 HJ10; clear HR10 HO10 HD10 HY10 HC8_10 HC10_10; have J := hid (fSign_any b all (S9 12) [123] w11 HD11.out); have hb : tst (S9 12) (isS [123]) = false := by kernel_rfl
 rw [hb] at J; have HBT := hid hb; clear hb
 go_wp2_with fail
 refine J.out.mono ?_
 rintro e w12 ⟨rfl, o4⟩; have HJ12 := hid (HJ11.out.no HBT.out); have HD12 := hid (HD11.out.still o4); clear HJ11 HBT J; have hr12 := kB o4 HR11.out (fun h => h); have HR12 := hid hr12; have hy12 := kB o4 HY11.out (fun h => h); have HY12 := hid hy12; have HC8_12 := hid (HC8_11.out.trans' o4 (fun q hq e => by exact e.elim)); have HC10_12 := hid (HC10_11.out.trans' o4 (fun q hq e => by exact e.elim)); have HO12 := hid (HO11.out.trans' o4 (fun q hq e => by exact e.elim)); clear hr12 hy12; clear o4; clear HR11 HO11 HD11 HY11 HC8_11 HC10_11; obtain ⟨y0, y1, y2, y3, y4, y5, y6, yz⟩ := boxN7 HY12.out
 go_wp2_with ((refine wpList_store_box (o := ⟨none, _, _, _, _, _⟩) rfl 53 (.tmp 2) (.tmp 30) (by rfl) B [.int .u8 0, .string ⟨#[]⟩, .string ⟨#[]⟩, .string ⟨#[]⟩, .slice none 0 0, .slice none 0 0, .slice none 0 0] [.int .u8 1, .string ⟨s2.toArray⟩, .string ⟨s6.toArray⟩, .string ⟨#[]⟩, .slice ar8 lr8 cr8, .slice ar10 lr10 cr10, .slice none 0 0] (by rfl) (by rfl) HR12.out (by rfl) (by kernel_rfl) (by intro u hu; simp at hu; rcases hu with rfl | rfl | rfl | rfl | rfl | rfl | rfl <;> rfl) ?_; intro w9 k1 k2))
 clear y0 y1 y2 y3 y4 y5 y6 yz; obtain ⟨y0, y1, y2, y3, y4, y5, y6, -⟩ := boxN7 k1; obtain ⟨hdn, hxs⟩ := HJ12.out.done; have hd9 : Rf w9 b all total.unit := by rw [← hdn]; exact HD12.out.only k2 (fun k hk e => by omega)
 have o8 := HC8_12.out.trans' k2 (fun q hq e => by have e : q = B := e; show q ≤ Y; omega); have o10 := HC10_12.out.trans' k2 (fun q hq e => by have e : q = B := e; show q ≤ Y; omega); have hag : ∀ x q, total = .ok x q → aggP B selC w9 x (.agg #[.int .u8 1, .string ⟨s2.toArray⟩, .string ⟨s6.toArray⟩, .string ⟨#[]⟩, .slice ar8 lr8 cr8, .slice ar10 lr10 cr10, .slice none 0 0]) := fun x q e => by
  obtain ⟨⟨⟨⟨⟨u, n1⟩, n2⟩, x3⟩, x4⟩, rfl, ⟨⟨⟨⟨-, k1⟩, k2⟩, k3⟩, k4⟩⟩ := hxs x q e; subst k1; subst k2; exact ⟨_, rfl, CellsAt.lit rfl (CellsAt.lit rfl (CellsAt.lit rfl (CellsAt.lit rfl (CellsAt.cons (CellAt.weaken (G' := fun q => B ≤ q) (fun q _ h => by have h : Y < q := h; show B ≤ q; omega) _ _ (CellAt.only o8 (fun k hk e => by have hk : Y < k := hk; have e : k ≤ Y := e; omega) _ _ k3)) (CellsAt.cons (CellAt.weaken (G' := fun q => B ≤ q) (fun q _ h => by have h : Y < q := h; show B ≤ q; omega) _ _ (CellAt.only o10 (fun k hk e => by have hk : Y < k := hk; have e : k ≤ Y := e; omega) _ _ k4)) (CellsAt.cons (by rw [selCs]; exact CellAt.nilRow _ _ _) (CellsAt.nil _ _)))))))⟩
 exact bodyPost_ret (v := .agg #[.int .u8 1, .string ⟨s2.toArray⟩, .string ⟨s6.toArray⟩, .string ⟨#[]⟩, .slice ar8 lr8 cr8, .slice ar10 lr10 cr10, .slice none 0 0]) (by simp [results, Tryz.results71, go_sem, y0, y1, y2, y3, y4, y5, y6]) rfl (HPP.out w9 _ ⟨1, s2, s6, [], ar8, lr8, cr8, ar10, lr10, cr10, none, 0, 0, rfl⟩ hd9 hag (HO12.out.trans' k2 (fun q hq e => by have := HWB.out; omega)))
set_option maxRecDepth 100000 in
set_option maxHeartbeats 8000000 in
theorem fsel9b (b : Nat) (all : RL) (hdp : all.dp + 23 = 24) (w : World) (h : Rf w b all (S9 12)) :
  Calls Tryz.prog 71 #[.pointer (some ⟨b, 0, none⟩)] w (FAns w b all (S9 12) (fun w' x v => aggP w.heap.size selC w' x v) seF (selP 23 (setP 23))) := by
 have hbl := h.lt; obtain ⟨B, hB⟩ := eX (w.heap.size); have hbB : b < B := by omega
 obtain ⟨total, htot⟩ := eX (((S9 12).bind fun _ => (selP 23 (setP 23)))); have hj := Jn.start (S9 12) (selP 23 (setP 23)); rw [htot] at hj; have HP : ∀ w' v, seF v → Rf w' b all total.unit → (∀ x q, total = .ok x q → aggP B selC w' x v) → Only (fun k => k = b) w w' → FAns w b all (S9 12) (fun w' x v => aggP w.heap.size selC w' x v) seF (selP 23 (setP 23)) (.returned v) w' := fun w' v q1 q2 q3 q4 => ⟨v, rfl, q1, by rw [htot]; exact q2, fun x q e => by rw [hB]; exact q3 x q (by rw [← htot]; exact e), q4⟩
 rw [selP_fun] at hj; obtain ⟨w0, hw0⟩ := eX (w.alloc (.cells #[.int .u8 0, .string ⟨#[]⟩, .string ⟨#[]⟩, .string ⟨#[]⟩, .slice none 0 0, .slice none 0 0, .slice none 0 0] 53)); have hr0 : w0.heap[B]? = some (.cells #[.int .u8 0, .string ⟨#[]⟩, .string ⟨#[]⟩, .string ⟨#[]⟩, .slice none 0 0, .slice none 0 0, .slice none 0 0] 53 (0, 0)) := by rw [← hw0, ← hB]; exact heap_new _ _
 have ho0 : Only (fun k => k = b) w w0 := by rw [← hw0]; exact (Only.refl _ w).alloc _
 have h0 : Rf w0 b all (S9 12) := by rw [← hw0]; exact h.still ((Only.refl (fun _ => False) w).alloc _)
 have HPP := hid HP; have HJ0 := hid hj; have HR0 := hid hr0; have HD0 := hid h0; have HO0 := hid ho0; have HW0 := hid hw0; have HBB := hid hB; have HWB := hid (show w.heap.size ≤ B by omega); have HDP := hid hdp; clear hdp; clear HP hj hr0 h0 ho0 hw0 htot h
 generalize (FAns w b all (S9 12) (fun w' x v => aggP w.heap.size selC w' x v) seF (selP 23 (setP 23))) = Q at *
 clear hB hbl
 go_enter Tryz.func71, Tryz.ntmps71
 go_upto_region 1 with (fail)
 rw [HBB.out, HW0.out]; clear HW0 HBB; have J := hid (fEat_any b all (S9 12) [46, 46, 46] w0 HD0.out); unfold tookF at J; have hb : tst (S9 12) (isT [46, 46, 46]) = true := by kernel_rfl
 rw [hb, if_pos rfl] at J; have HBT := hid hb; clear hb
 go_wp2_with fail
 refine J.out.mono ?_
 rintro e w1 ⟨rfl, hd, o4⟩; have HJ1 := hid (Jn.adv (F := fun (_ : Unit) r => if isT wOn r then (nameP r.tail).bind fun s r1 => (dirsP 23 (r1.length + 1) [] r1).bind fun ds r2 => (setP 23 r2).bind fun sub r3 => .ok (SL.mk 3 [] [] s [] ds sub) r3 else if isK 1 r then (nameP r).bind fun s r1 => (dirsP 23 (r1.length + 1) [] r1).bind fun ds r2 => .ok (SL.mk 2 [] s [] [] ds []) r2 else (dirsP 23 (r.length + 1) [] r).bind fun ds r2 => (setP 23 r2).bind fun sub r3 => .ok (SL.mk 3 [] [] [] [] ds sub) r3) (HJ0.out.yes HBT.out)); have hσ : adv (S9 12) = S9 13 := by kernel_rfl
 rw [hσ] at hd HJ1; clear hσ; have HD1 := hid hd; clear HJ0 hd HBT J; have hr1 := kB o4 HR0.out (by omega); have HR1 := hid hr1; have HO1 := hid (HO0.out.trans' o4 (fun q hq e => by exact e)); clear hr1; clear o4; clear HR0 HO0 HD0; have hsz2 : B < w1.heap.size := (gE HR1.out).1; obtain ⟨Y, hY⟩ := eX (w1.heap.size); obtain ⟨w2, hw2⟩ := eX (w1.alloc (.cells #[.int .u8 3, .string ⟨#[]⟩, .string ⟨#[]⟩, .string ⟨#[]⟩, .slice none 0 0, .slice none 0 0, .slice none 0 0] 53)); have hy2 : w2.heap[Y]? = some (.cells #[.int .u8 3, .string ⟨#[]⟩, .string ⟨#[]⟩, .string ⟨#[]⟩, .slice none 0 0, .slice none 0 0, .slice none 0 0] 53 (0, 0)) := by rw [← hw2, ← hY]; exact heap_new _ _
 have hr2 : w2.heap[B]? = some (.cells #[.int .u8 0, .string ⟨#[]⟩, .string ⟨#[]⟩, .string ⟨#[]⟩, .slice none 0 0, .slice none 0 0, .slice none 0 0] 53 (0, 0)) := by rw [← hw2]; exact heap_old HR1.out _
 have oa2 : Only (fun _ => False) w1 w2 := by rw [← hw2]; exact (Only.refl _ _).alloc _
 rw [hY] at hsz2; have HY2 := hid hy2; have HR2 := hid hr2; have HD2 := hid (HD1.out.still oa2); have HO2 := hid (HO1.out.trans' oa2 (fun q _ e => e.elim)); have HW2 := hid hw2; have HYY := hid hY; have HJ2 := HJ1; clear hy2 hr2 hw2 hY oa2 HR1 HD1 HO1 HJ1
 go_upto_region 12 with (fail)
 rw [HYY.out, HW2.out]; clear HYY HW2; have J := hid (fEat_any b all (S9 13) [111, 110] w2 HD2.out); unfold tookF at J; have hb : tst (S9 13) (isT [111, 110]) = false := by kernel_rfl
 rw [hb, if_neg (by decide)] at J; have HBT := hid hb; clear hb
 go_wp2_with fail
 refine J.out.mono ?_
 rintro e w3 ⟨rfl, hd, o4⟩; have HJ3 := hid (HJ2.out.no HBT.out); have HD3 := hid hd; clear HJ2 hd HBT J; have hr3 := kB o4 HR2.out (by omega); have HR3 := hid hr3; have hy3 := kB o4 HY2.out (by omega); have HY3 := hid hy3; have HO3 := hid (HO2.out.trans' o4 (fun q hq e => by exact e)); clear hr3 hy3; clear o4; clear HR2 HO2 HD2 HY2; have J := hid (fKind_any b all (S9 13) 1 w3 HD3.out (by decide)); have hb : tst (S9 13) (isK 1) = true := by kernel_rfl
 rw [hb] at J; have HBT := hid hb; clear hb
 go_wp2_with fail
 refine J.out.mono ?_
 rintro e w4 ⟨rfl, o4⟩; have HJ4 := hid (HJ3.out.yes HBT.out); have HD4 := hid (HD3.out.still o4); clear HJ3 HBT J; have hr4 := kB o4 HR3.out (fun h => h); have HR4 := hid hr4; have hy4 := kB o4 HY3.out (fun h => h); have HY4 := hid hy4; have HO4 := hid (HO3.out.trans' o4 (fun q hq e => by exact e.elim)); clear hr4 hy4; clear o4; clear HR3 HO3 HD3 HY3; obtain ⟨y0, y1, y2, y3, y4, y5, y6, yz⟩ := boxN7 HY4.out
 go_upto_region 16 with (fail)
 clear y0 y1 y2 y3 y4 y5 y6 yz; have hy5 := heap_set (o := 0) HY4.out (.int .u8 2); have hy5 : (w4.setCell ⟨Y, 0, none⟩ (.int .u8 2)).heap[Y]? = some (.cells #[.int .u8 2, .string ⟨#[]⟩, .string ⟨#[]⟩, .string ⟨#[]⟩, .slice none 0 0, .slice none 0 0, .slice none 0 0] 53 (0, 0)) := by simpa using hy5
 have os5 : Only (fun k => k = Y) w4 (w4.setCell ⟨Y, 0, none⟩ (.int .u8 2)) := (Only.refl (fun k => k = Y) _).setCell (p := ⟨Y, 0, none⟩) (.inl rfl) _; obtain ⟨w5, hw5⟩ := eX (w4.setCell ⟨Y, 0, none⟩ (.int .u8 2)); rw [hw5] at hy5 os5; rw [hw5]; clear hw5; have HY5 := hid hy5; have HD5 := hid (HD4.out.only os5 (fun k hk e => by omega)); have HJ5 := HJ4; have hr5 := kB os5 HR4.out (by omega); have HR5 := hid hr5; have HO5 := hid (HO4.out.trans' os5 (fun q hq e => by have e : q = Y := e; have := HWB.out; omega)); clear hr5; clear hy5 os5 HJ4; clear HR4 HO4 HD4 HY4; have J := hid (fName_any b all (S9 13) w5 HD5.out)
 go_wp2_with fail
 refine J.out.mono ?_
 rintro e w6 ⟨v, rfl, ⟨s6, rfl⟩, hd, hv, o4⟩; have hv : ∀ x q, ((S9 13).bind fun _ => nameP) = .ok x q → s6 = x := fun x q e => strF_inj (hv x q e)
 have hσ : ((S9 13).bind fun _ => nameP).unit = S9 14 := by kernel_rfl
 rw [hσ] at hd; have hj := Jn.call (fun x => s6 = x) HJ5.out hσ.symm hv; have HJ6 := hid hj; have HD6 := hid hd; clear hj hd hv hσ HJ5 J; have hr6 := kB o4 HR5.out (by omega); have HR6 := hid hr6; have hy6 := kB o4 HY5.out (by omega); have HY6 := hid hy6; have HO6 := hid (HO5.out.trans' o4 (fun q hq e => by exact e)); clear hr6 hy6; clear o4; clear HR5 HO5 HD5 HY5; obtain ⟨y0, y1, y2, y3, y4, y5, y6, yz⟩ := boxN7 HY6.out
 go_upto_region 17 with (fail)
 clear y0 y1 y2 y3 y4 y5 y6 yz; have hy7 := heap_set (o := 2) HY6.out (.string ⟨s6.toArray⟩); have hy7 : (w6.setCell ⟨Y, 2, none⟩ (.string ⟨s6.toArray⟩)).heap[Y]? = some (.cells #[.int .u8 2, .string ⟨#[]⟩, .string ⟨s6.toArray⟩, .string ⟨#[]⟩, .slice none 0 0, .slice none 0 0, .slice none 0 0] 53 (0, 0)) := by simpa using hy7
 have os7 : Only (fun k => k = Y) w6 (w6.setCell ⟨Y, 2, none⟩ (.string ⟨s6.toArray⟩)) := (Only.refl (fun k => k = Y) _).setCell (p := ⟨Y, 2, none⟩) (.inl rfl) _; obtain ⟨w7, hw7⟩ := eX (w6.setCell ⟨Y, 2, none⟩ (.string ⟨s6.toArray⟩)); rw [hw7] at hy7 os7; rw [hw7]; clear hw7; have HY7 := hid hy7; have HD7 := hid (HD6.out.only os7 (fun k hk e => by omega)); have HJ7 := HJ6; have hr7 := kB os7 HR6.out (by omega); have HR7 := hid hr7; have HO7 := hid (HO6.out.trans' os7 (fun q hq e => by have e : q = Y := e; have := HWB.out; omega)); clear hr7; clear hy7 os7 HJ6; clear HR6 HO6 HD6 HY6; have J := hid (fdirs9 23 b all (S9 14) w7 HD7.out (by kernel_rfl))
 go_wp2_with fail
 refine J.out.mono ?_
 rintro e w8 ⟨v, rfl, ⟨ar8, lr8, cr8, rfl⟩, hd, hv, o4⟩; have hsy : Y < w7.heap.size := (gE HY7.out).1; have hv : ∀ x q, ((S9 14).bind fun _ => (fun r => dirsP 23 (r.length + 1) [] r)) = .ok x q → CellAt w8 (fun q => Y < q) (.row 2 (x.map dirC)) (.slice ar8 lr8 cr8) := fun x q e => CellAt.weaken (fun q _ h => by have h : w7.heap.size ≤ q := h; show Y < q; omega) _ _ (hv x q e)
 have hσ : ((S9 14).bind fun _ => (fun r => dirsP 23 (r.length + 1) [] r)).unit = S9 14 := by kernel_rfl
 rw [hσ] at hd; have hj := Jn.call (fun x => CellAt w8 (fun q => Y < q) (.row 2 (x.map dirC)) (.slice ar8 lr8 cr8)) HJ7.out hσ.symm hv; have HJ8 := hid hj; have HD8 := hid hd; clear hj hd hv hσ HJ7 J hsy; have hr8 := kB o4 HR7.out (by omega); have HR8 := hid hr8; have hy8 := kB o4 HY7.out (by omega); have HY8 := hid hy8; have HO8 := hid (HO7.out.trans' o4 (fun q hq e => by exact e)); clear hr8 hy8; have HC8_8 := hid (Only.refl (fun k => k ≤ Y) w8); clear o4; clear HR7 HO7 HD7 HY7; obtain ⟨y0, y1, y2, y3, y4, y5, y6, yz⟩ := boxN7 HY8.out
 go_upto_region 18 with (fail)
 clear y0 y1 y2 y3 y4 y5 y6 yz; have hy9 := heap_set (o := 5) HY8.out (.slice ar8 lr8 cr8); have hy9 : (w8.setCell ⟨Y, 5, none⟩ (.slice ar8 lr8 cr8)).heap[Y]? = some (.cells #[.int .u8 2, .string ⟨#[]⟩, .string ⟨s6.toArray⟩, .string ⟨#[]⟩, .slice none 0 0, .slice ar8 lr8 cr8, .slice none 0 0] 53 (0, 0)) := by simpa using hy9
 have os9 : Only (fun k => k = Y) w8 (w8.setCell ⟨Y, 5, none⟩ (.slice ar8 lr8 cr8)) := (Only.refl (fun k => k = Y) _).setCell (p := ⟨Y, 5, none⟩) (.inl rfl) _; obtain ⟨w9, hw9⟩ := eX (w8.setCell ⟨Y, 5, none⟩ (.slice ar8 lr8 cr8)); rw [hw9] at hy9 os9; rw [hw9]; clear hw9; have HY9 := hid hy9; have HD9 := hid (HD8.out.only os9 (fun k hk e => by omega)); have HJ9 := HJ8; have hr9 := kB os9 HR8.out (by omega); have HR9 := hid hr9; have HC8_9 := hid (HC8_8.out.trans' os9 (fun q hq e => by have e : q = Y := e; show q ≤ Y; omega)); have HO9 := hid (HO8.out.trans' os9 (fun q hq e => by have e : q = Y := e; have := HWB.out; omega)); clear hr9; clear hy9 os9 HJ8; clear HR8 HO8 HD8 HY8 HC8_8; obtain ⟨y0, y1, y2, y3, y4, y5, y6, yz⟩ := boxN7 HY9.out
 go_wp2_with ((refine wpList_store_box (o := ⟨none, _, _, _, _, _⟩) rfl 53 (.tmp 2) (.tmp 46) (by rfl) B [.int .u8 0, .string ⟨#[]⟩, .string ⟨#[]⟩, .string ⟨#[]⟩, .slice none 0 0, .slice none 0 0, .slice none 0 0] [.int .u8 2, .string ⟨#[]⟩, .string ⟨s6.toArray⟩, .string ⟨#[]⟩, .slice none 0 0, .slice ar8 lr8 cr8, .slice none 0 0] (by rfl) (by rfl) HR9.out (by rfl) (by kernel_rfl) (by intro u hu; simp at hu; rcases hu with rfl | rfl | rfl | rfl | rfl | rfl | rfl <;> rfl) ?_; intro w9 k1 k2))
 clear y0 y1 y2 y3 y4 y5 y6 yz; obtain ⟨y0, y1, y2, y3, y4, y5, y6, -⟩ := boxN7 k1; obtain ⟨hdn, hxs⟩ := HJ9.out.done; have hd9 : Rf w9 b all total.unit := by rw [← hdn]; exact HD9.out.only k2 (fun k hk e => by omega)
 have o8 := HC8_9.out.trans' k2 (fun q hq e => by have e : q = B := e; show q ≤ Y; omega); have hag : ∀ x q, total = .ok x q → aggP B selC w9 x (.agg #[.int .u8 2, .string ⟨#[]⟩, .string ⟨s6.toArray⟩, .string ⟨#[]⟩, .slice none 0 0, .slice ar8 lr8 cr8, .slice none 0 0]) := fun x q e => by
  obtain ⟨⟨⟨u, n1⟩, x4⟩, rfl, ⟨⟨-, k1⟩, k4⟩⟩ := hxs x q e; subst k1; exact ⟨_, rfl, CellsAt.lit rfl (CellsAt.lit rfl (CellsAt.lit rfl (CellsAt.lit rfl (CellsAt.cons (CellAt.nilRow _ _ _) (CellsAt.cons (CellAt.weaken (G' := fun q => B ≤ q) (fun q _ h => by have h : Y < q := h; show B ≤ q; omega) _ _ (CellAt.only o8 (fun k hk e => by have hk : Y < k := hk; have e : k ≤ Y := e; omega) _ _ k4)) (CellsAt.cons (by rw [selCs]; exact CellAt.nilRow _ _ _) (CellsAt.nil _ _)))))))⟩
 exact bodyPost_ret (v := .agg #[.int .u8 2, .string ⟨#[]⟩, .string ⟨s6.toArray⟩, .string ⟨#[]⟩, .slice none 0 0, .slice ar8 lr8 cr8, .slice none 0 0]) (by simp [results, Tryz.results71, go_sem, y0, y1, y2, y3, y4, y5, y6]) rfl (HPP.out w9 _ ⟨2, [], s6, [], none, 0, 0, ar8, lr8, cr8, none, 0, 0, rfl⟩ hd9 hag (HO9.out.trans' k2 (fun q hq e => by have := HWB.out; omega)))
theorem infoSeF : (Tryz.prog.info? 53).map (fun i => (i.zero, i.size, i.bytes)) = some (some (.agg #[.int .u8 0, .string ByteArray.empty, .string ByteArray.empty, .string ByteArray.empty, .slice none 0 0, .slice none 0 0, .slice none 0 0]), 7, 128) := by kernel_rfl
theorem LS.retry {α : Type} {p : List Tok → PR α} {c : List UInt8} (hp : Takes p) {total : PR (List α)} {n : Nat} {K : List α → Prop} {σ : PR Unit} (h : LS p c total false n K σ) (hb : tst σ (isT c) = false) : LS p c total true n K σ := by
 refine ⟨h.few, fun u r e => ?_, h.bad⟩
 obtain ⟨h1, acc, h2, h3, h4⟩ := h.ok u r e; refine ⟨h1, acc, h2, h3, h4.trans ?_⟩
 subst e; rw [loop_step hp (.inr hb), loop_step hp (.inl rfl)]
def SI9 (p : List Tok → PR SL) (tl : PR (List SL)) (w : World) (b : Nat) (all : RL) (v : Value) (wr : World) : Prop :=
 ∃ (σ : PR Unit) (rs : List (List Cell)), (σ = S9 1 ∨ σ = S9 12) ∧ Rf wr b all σ ∧ OwnRow wr w.heap.size 53 7 v rs ∧ Only (fun k => k = b) w wr ∧ LS p [125] tl true rs.length (fun acc => rs = acc.map selC) σ
set_option maxRecDepth 100000 in
set_option maxHeartbeats 40000000 in
theorem fset9 (b : Nat) (all : RL) (hdp : all.dp = 0) (w : World) (h0 : Rf w b all (S9 0)) :
  Calls Tryz.prog 39 #[.pointer (some ⟨b, 0, none⟩)] w (FAns w b all (S9 0) (rowP w.heap.size 7 selC) rowF (setP 24)) := by
 unfold S9 at h0 ⊢; obtain ⟨r, hr⟩ := eX (tk9.drop 0); rw [hr] at h0 ⊢; have h := h0; clear h0; have hbl := h.lt; have J := hid (fOpen_any b all (by omega) (.ok () r) w h); rw [show opn all.dp (.ok () r) = .ok () r from if_neg (by omega)] at J; have HD := hid (show all.dp ≤ 1000 by omega)
 have IH := hid (show ∀ (σ : PR Unit) (w' : World), (σ = S9 1 ∨ σ = S9 12) → Rf w' b all.in_ σ → Calls Tryz.prog 71 #[.pointer (some ⟨b, 0, none⟩)] w' (FAns w' b all.in_ σ (fun w2 x v => aggP w'.heap.size selC w2 x v) seF (selP 23 (setP 23))) from fun σ w' g h' => by
  rcases g with rfl | rfl
  ·exact fsel9a b all.in_ (by show all.dp + 1 + 23 = 24; omega) w' h'
  ·exact fsel9b b all.in_ (by show all.dp + 1 + 23 = 24; omega) w' h')
 have hst : ∀ rr, ((PR.ok () rr : PR Unit) = S9 1 ∨ (PR.ok () rr : PR Unit) = S9 12) → tst (selP 23 (setP 23) rr).unit (isT [125]) = false → (selP 23 (setP 23) rr).unit = S9 12 := fun rr g e => by
  rcases g with g | g
  ·obtain rfl : rr = tk9.drop 1 := by unfold S9 at g; injection g
   kernel_rfl
  ·obtain rfl : rr = tk9.drop 12 := by unfold S9 at g; injection g
   exact absurd e (by rw [show tst (selP 23 (setP 23) (tk9.drop 12)).unit (isT [125]) = true from by kernel_rfl]; decide)
 have hg1 : (wantP [123] r).unit = S9 1 := by rw [← hr]; kernel_rfl
 obtain ⟨e0, ce, cz, hσ⟩ := h.err; have he0 : e0 = 0 := by rcases hσ with ⟨_, _, h⟩ | ⟨_, h, _⟩; exact h; cases h
 subst he0; obtain ⟨p, hp⟩ := eX (selP 23 (setP 23)); have htk : Takes p := by rw [← hp]; exact selP_takes 23 (setP_takes 23)
 rw [hp] at IH hst; have HST := hid hst; clear hst; obtain ⟨σ1, hσ1⟩ := eX ((wantP [123] r).unit); have HG1 := hid (hσ1.symm.trans hg1); clear hg1; obtain ⟨tl, htl⟩ := eX ((σ1.bind fun _ r => loopP p [125] true [] r)); have htot : ((PR.ok () r : PR Unit).bind fun _ => setP 24) = tl := by
  rw [← htl, ← hσ1]
  show setP 24 r = _
  rw [setP, hp]
  cases hq : wantP [123] r with
  | bad a e => rfl
  | ok u' r1 => exact manyP_loop htk _ _ _ (by omega)
 have HPP := hid (show ∀ w' (a : Option Addr) (l e : Nat) σ, Rf w' b all σ → σ = tl.unit → (∀ x q, tl = .ok x q → CellAt w' (fun q => w.heap.size ≤ q) (.row 7 (x.map selC)) (.slice a l e)) → Only (fun k => k = b) w w' → FAns w b all (.ok () r) (rowP w.heap.size 7 selC) rowF (setP 24) (.returned (.slice a l e)) w' from fun w' a l e σ h1 h2 h3 h4 => ⟨_, rfl, ⟨a, l, e, rfl⟩, by rw [htot, ← h2]; exact h1, fun x q e => h3 x q (by rw [← htot]; exact e), h4⟩); have HTL := hid htl; have HS1 := hid hσ1; have HTK := hid htk; clear h hσ hdp hr htl htot hσ1 htk hp
 generalize (FAns w b all (.ok () r) (rowP w.heap.size 7 selC) rowF (setP 24)) = Q at *
 go_enter Tryz.func39, Tryz.ntmps39
 go_wp2_with fail
 refine J.out.mono ?_
 rintro e w1 ⟨rfl, hd1, o1⟩; clear ce cz; have J2 := hid (fMust_any b all.in_ (.ok () r) [123] w1 hd1); have O1 := hid o1; clear hd1 o1 J
 go_wp2_with fail
 refine J2.out.mono ?_
 rintro e w2 ⟨rfl, hd2, o2⟩; have hd2 : Rf w2 b all.in_ (wantP [123] r).unit := hd2; rw [HS1.out] at hd2; have hls := LS.start (p := p) (c := [125]) true (K := fun acc => ([] : List (List Cell)) = acc.map selC) rfl (σ := σ1) (fun u r e => by have h := hd2; rw [e] at h; exact h.few.1); rw [HTL.out] at hls; have HI := hid (show SI9 p tl w b all.in_ (.slice none 0 0) w2 from ⟨σ1, [], .inl HG1.out, hd2, OwnRow.nil _ _ _ _, O1.out.trans o2, hls⟩); clear hd2 o2 hls J2 O1
 go_wp2_with fail
 go_loopw [3] (fun v3 wr => Hid (SI9 p tl w b all.in_ v3 wr)) (fun _ wr => muF wr b all.in_)
 case atStart => exact HI
 case round =>
  obtain ⟨σ, rs, hgd, hd, hown, hon, hls⟩ := hrel.out; obtain ⟨aL, cL, eL, fL1, fL2, fL3⟩ := hown.form; subst eL; have fL2n : cL ≤ 9223372036854775807 := by unfold maxLen at fL2; omega
  have HOWN := hid hown; have HDr := hid hd; have HOr := hid hon; have HLS := hid hls; have HFL := hid fL3; have HLW := hid (show w.heap.size ≤ wr.heap.size from hon.size); obtain ⟨e0, ce, cz, hσ⟩ := hd.err; clear hown hd hon hls fL2 fL3 hrel HI
  rcases hσ with ⟨rr, rfl, rfl⟩ | ⟨ab, rfl, he0⟩
  rotate_left
  ·rcases hgd with h | h <;> (unfold S9 at h; cases h)
  have HGD := hid hgd; clear hgd; have J := hid (IH.out (.ok () rr) wr HGD.out HDr.out); have HFEW := hid (show rs.length + 1 ≤ 1000000 by have h1 := (HLS.out.ok _ _ rfl).1; have h2 := HDr.out.few.2; omega)
  go_wp2_with fail
  refine J.out.mono ?_
  rintro e w3 ⟨v, rfl, ⟨k, s0, s1, s2, a1, l1, e1, a2, l2, e2, a3, l3, e3, rfl⟩, hd3, hv, o3⟩; clear ce cz; have hd3 : Rf w3 b all.in_ (p rr).unit := hd3; have hvc : ∀ x q, p rr = .ok x q → CellsAt w3 (fun q => wr.heap.size ≤ q ∧ q < w3.heap.size) (selC x) [.int .u8 (k : Int), .string ⟨s0.toArray⟩, .string ⟨s1.toArray⟩, .string ⟨s2.toArray⟩, .slice a1 l1 e1, .slice a2 l2 e2, .slice a3 l3 e3] := fun x q e => CellsAt.weaken (fun q hq h => ⟨h, hq⟩) _ _ (aggF_cells (hv x q e))
  obtain ⟨row, hrow, hrx⟩ := elem_row (P := p rr) (enc := selC) (ys := [.int .u8 (k : Int), .string ⟨s0.toArray⟩, .string ⟨s1.toArray⟩, .string ⟨s2.toArray⟩, .slice a1 l1 e1, .slice a2 l2 e2, .slice a3 l3 e3]) hvc (by intro u hu; simp at hu; rcases hu with rfl | rfl | rfl | rfl | rfl | rfl | rfl <;> rfl); obtain ⟨X, hX⟩ := eX (w3.heap.size); obtain ⟨w4, hw4⟩ := eX (w3.alloc (.cells #[.int .u8 (k : Int), .string ⟨s0.toArray⟩, .string ⟨s1.toArray⟩, .string ⟨s2.toArray⟩, .slice a1 l1 e1, .slice a2 l2 e2, .slice a3 l3 e3] 53)); have o4 : Only (fun _ => False) w3 w4 := by rw [← hw4]; exact (Only.refl _ _).alloc _
  have hx4 : w4.heap[X]? = some (.cells #[.int .u8 (k : Int), .string ⟨s0.toArray⟩, .string ⟨s1.toArray⟩, .string ⟨s2.toArray⟩, .slice a1 l1 e1, .slice a2 l2 e2, .slice a3 l3 e3] 53 (0, 0)) := by rw [← hw4, ← hX]; exact heap_new _ _
  obtain ⟨G, hG⟩ := eX (w4.heap.size); obtain ⟨w5, hw5⟩ := eX (w4.alloc (.cells #[.int .u8 (k : Int), .string ⟨s0.toArray⟩, .string ⟨s1.toArray⟩, .string ⟨s2.toArray⟩, .slice a1 l1 e1, .slice a2 l2 e2, .slice a3 l3 e3] 53)); have o5 : Only (fun _ => False) w4 w5 := by rw [← hw5]; exact (Only.refl _ _).alloc _
  have hg5 : w5.heap[G]? = some (.cells #[.int .u8 (k : Int), .string ⟨s0.toArray⟩, .string ⟨s1.toArray⟩, .string ⟨s2.toArray⟩, .slice a1 l1 e1, .slice a2 l2 e2, .slice a3 l3 e3] 53 (0, 0)) := by rw [← hw5, ← hG]; exact heap_new _ _
  have hgs : G + 1 = w5.heap.size := by rw [← hw5, World.size_alloc, hG]
  have o05 : Only (fun k => k = b) wr w5 := (o3.trans' o4 (fun _ _ h => h.elim)).trans' o5 (fun _ _ h => h.elim); have hG1 : w.heap.size ≤ G := by have h1 := o3.size; have h2 := o4.size; have := HLW.out; omega
  have hys : ∀ j u, ([.int .u8 (k : Int), .string ⟨s0.toArray⟩, .string ⟨s1.toArray⟩, .string ⟨s2.toArray⟩, .slice a1 l1 e1, .slice a2 l2 e2, .slice a3 l3 e3] : List Value)[j]? = some u → w5.cell? ((⟨G, 0, none⟩ : Addr).add j) = some u := fun j u hu => by rw [addr_add]; exact range_of_block (cs := [.int .u8 (k : Int), .string ⟨s0.toArray⟩, .string ⟨s1.toArray⟩, .string ⟨s2.toArray⟩, .slice a1 l1 e1, .slice a2 l2 e2, .slice a3 l3 e3]) hg5 j u hu
  have hone : ∀ u ∈ ([.int .u8 (k : Int), .string ⟨s0.toArray⟩, .string ⟨s1.toArray⟩, .string ⟨s2.toArray⟩, .slice a1 l1 e1, .slice a2 l2 e2, .slice a3 l3 e3] : List Value), u.oneCell' = true := by intro u hu; simp at hu; rcases hu with rfl | rfl | rfl | rfl | rfl | rfl | rfl <;> rfl
  obtain ⟨xs, p1', p2'⟩ := HOWN.out.only o05 (fun k h1 h2 e => by have e : k = b := e; omega); have HX := hid hX; have HW4 := hid hw4; have HX4 := hid hx4; have HG := hid hG; have HW5 := hid hw5; have HYS := hid hys; have HONE := hid hone; have HP1 := hid p1'; have HP2 := hid p2'; have HGS := hid hgs; have HG1 := hid hG1; have HD5 := hid (hd3.still (o4.trans o5)); have HO5 := hid (HOr.out.trans o05); have HRX := hid hrx; have HV5 := hid (show CellsAt w5 (fun q => w.heap.size ≤ q ∧ (Value.slice aL rs.length cL).ownBlock ≠ some q ∧ q < w5.heap.size) row [.int .u8 (k : Int), .string ⟨s0.toArray⟩, .string ⟨s1.toArray⟩, .string ⟨s2.toArray⟩, .slice a1 l1 e1, .slice a2 l2 e2, .slice a3 l3 e3] from CellsAt.weaken (fun q hq h => ⟨by have := h.1; have := HLW.out; omega, fun e => by have h1 := h.1; have := (HFL.out q e).2; omega, hq⟩) _ _ (CellsAt.only (o4.trans o5) (fun _ _ h => h) _ _ hrow)); clear hX hw4 hx4 hG hw5 hys hone p1' p2' hd3 o4 o5 hg5 hv hvc o3 J hgs hrow hrx o05 hG1
  go_upto_region 6 with (fail)
  rw [HX.out, HW4.out]; clear HX HW4; obtain ⟨x0, x1, x2, x3, x4, x5, x6, -⟩ := boxN7 HX4.out
  go_wp2_with ((rw [HG.out, HW5.out]; refine wpList_append_own2 (o := ⟨some 26, _, _, _, _, _⟩) rfl (.tmp 23) (.tmp 25) 51 53 (by rfl) Tryz.underlying51 infoSeF rfl (by decide) w.heap.size (.slice aL rs.length cL) rs.length 1 1 xs [.int .u8 (k : Int), .string ⟨s0.toArray⟩, .string ⟨s1.toArray⟩, .string ⟨s2.toArray⟩, .slice a1 l1 e1, .slice a2 l2 e2, .slice a3 l3 e3] ⟨G, 0, none⟩ (by rfl) (by rfl) HP1.out (by rfl) HYS.out HONE.out (by have := HFEW.out; unfold maxLen; omega) (by have := HFEW.out; omega) (by have := HGS.out; have := HG1.out; omega) ?_; intro v' w9 q1 q2 q3; obtain ⟨aL', cL', eL', gL1, gL2, -⟩ := own_form q1; subst eL'; clear x0 x1 x2 x3 x4 x5 x6))
  have hF := HFL.out; have hrow2 := OwnRow.append HP1.out HP2.out rfl HV5.out q1 q2 q3; have hdd := HD5.out.only q2 (fun k hk h => by have := (hF k h).1; omega); have hoo : Only (fun k => k = b) w w9 := HO5.out.trans' q2 (fun q hq h => by have := (hF q h).1; omega); have hlss := HLS.out.next (K' := fun acc => rs ++ [row] = acc.map selC) HTK.out HDr.out.few.2 (.inl rfl) (fun acc x q h1 h2 => by rw [h1, HRX.out x q h2, List.map_append]; rfl); have T := hid (fEat_any b all.in_ (p rr).unit [125] w9 hdd); unfold tookF at T; obtain ⟨bb, hb⟩ := eX (tst (p rr).unit (isT [125])); rw [hb] at T; have HB := hid hb; have HROW := hid hrow2; have HOO := hid hoo; have HLSS := hid hlss; have hmu : ∀ wz, Rf wz b all.in_ (p rr).unit → muF wz b all.in_ < muF wr b all.in_ := fun wz hz => by
   rw [muF_ok HDr.out]
   cases hq : p rr with
   | bad a q => rw [hq] at hz; rw [muF_bad hz]; omega
   | ok x r2 => rw [hq] at hz; rw [muF_ok (u := ()) hz]; have := HTK.out _ _ _ hq; omega
  have HMU := hid hmu; clear hb hrow2 hdd hoo hlss hmu q1 q2 q3 gL1 gL2 HV5 HD5 HO5 hF
  cases bb with
  | false =>
   rw [if_neg (by decide)] at T
   go_wp2_with fail
   refine T.out.mono ?_
   rintro e w10 ⟨rfl, hd10, o10⟩; have HNEW := hid (show SI9 p tl w b all.in_ (.slice aL' (rs.length + 1) cL') w10 from ⟨_, rs ++ [row], .inr (HST.out rr HGD.out HB.out), hd10, HROW.out.only o10 (fun k h1 h2 e => by have e : k = b := e; omega), HOO.out.trans o10, by rw [List.length_append, List.length_singleton]; exact HLSS.out.retry HTK.out HB.out⟩); have HM2 := hid (HMU.out w10 hd10); clear hd10 o10 T
   go_wp2_with fail
   go_roundw
   case rel => exact HNEW
   case measure => exact HM2.out
  | true =>
   rw [if_pos rfl] at T; obtain ⟨x, r2, hq⟩ : ∃ x r2, p rr = .ok x r2 := by
    have := HB.out
    cases hq : p rr with
    | bad a e => rw [hq] at this; cases this
    | ok x r2 => exact ⟨x, r2, rfl⟩
   have hbr : isT [125] r2 = true := by have := HB.out; rw [hq] at this; exact this
   have hls2 := HLSS.out; rw [show (p rr).unit = .ok () r2 from by rw [hq]; rfl] at hls2; obtain ⟨acc, hK, htl⟩ := hls2.stop hbr; have HK := hid hK; have HTL2 := hid htl; have HQ := hid hq; clear hls2 hK htl hbr hq
   go_wp2_with fail
   refine T.out.mono ?_
   rintro e w10 ⟨rfl, hd10, o10⟩; rw [show adv (p rr).unit = .ok () r2.tail from by rw [HQ.out]; rfl] at hd10; obtain ⟨dv, kd2, kfz, -⟩ := Rf.dcell hd10; obtain ⟨xd, hxd⟩ := eX (IntKind.i64.wrap (dv - 1)); have hd3 := Rf.up hd10 HD.out kd2; rw [hxd] at hd3; have os : Only (fun k => k = b) w10 (w10.setCell ⟨b, 2, none⟩ (.int .i64 xd)) := (Only.refl (fun k => k = b) w10).setCell (.inl rfl) _; have o3 := (HOO.out.trans o10).trans os; have hrz := (HROW.out.only o10 (fun k h1 h2 e => by have e : k = b := e; omega)).only os (fun k h1 h2 e => by have e : k = b := e; omega); obtain ⟨w11, hw11⟩ := eX (w10.setCell ⟨b, 2, none⟩ (.int .i64 xd)); rw [hw11] at hd3 o3 hrz; have HE := hid (HPP.out w11 aL' (rs.length + 1) cL' (.ok () r2.tail) hd3 (by rw [HTL2.out]; rfl) (fun x q e => by rw [HTL2.out] at e; injection e with e _; subst e; rw [← HK.out]; exact hrz.cell) o3); have HW11 := hid hw11; clear hd10 o10 hd3 o3 hw11 hrz os T
   go_upto_region 9 with (fail)
   rw [HW11.out]; clear hxd kd2 kfz
   go_wp2_with fail
   first
    | exact HE.out
    | (go_ret; exact HE.out)
theorem infoOp : (Tryz.prog.info? 56).map (fun i => (i.zero, i.size, i.bytes)) = some (some (.agg #[.bool false, .string ByteArray.empty, .slice none 0 0, .slice none 0 0]), 4, 72) := by kernel_rfl
def bN : Value → Nat
 | .bool true => 1
 | _ => 0
structure D9 (w : World) (b D R : Nat) (all : RL) (first : Bool) (wr : World) (vO : Value) (os : List (List Cell)) : Prop where
 rd : Rf wr b all (if first then S9 0 else S9 15)
 box : wr.heap[D]? = some (.cells #[vO, .slice none 0 0] 26 (0, 0))
 res : wr.heap[R]? = some (.cells #[.slice none 0 0, .slice none 0 0] 26 (0, 0))
 own : OwnRow wr (D + 1) 56 4 vO os
 row : os = if first then [] else [opC ⟨false, [], [], awkS8⟩]
 only : Only (fun _ => False) w wr
set_option maxRecDepth 100000 in
set_option maxHeartbeats 40000000 in
theorem fdoc9 (w : World) :
  Calls Tryz.prog 12 #[.string ⟨awkT8.toArray⟩] w (fun e w' => ∃ a1 c1, e = .returned (.tuple #[.agg #[.slice a1 1 c1, .slice none 0 0], .int .i64 0, .int .i64 0]) ∧ CellsAt w' (fun q => w.heap.size ≤ q) (docC awkD8) [.slice a1 1 c1, .slice none 0 0] ∧ Only (fun _ => False) w w') := by
 obtain ⟨Q, hQ⟩ : ∃ Q, (fun (e : Ending) (w' : World) => ∃ a1 c1, e = .returned (.tuple #[.agg #[.slice a1 1 c1, .slice none 0 0], .int .i64 0, .int .i64 0]) ∧ CellsAt w' (fun q => w.heap.size ≤ q) (docC awkD8) [.slice a1 1 c1, .slice none 0 0] ∧ Only (fun _ => False) w w') = Q := ⟨_, rfl⟩; rw [hQ]; obtain ⟨R, hR⟩ := eX (w.heap.size); obtain ⟨wa, hwa⟩ := eX (w.alloc (.cells #[.slice none 0 0, .slice none 0 0] 26)); have hra : wa.heap[R]? = some (.cells #[.slice none 0 0, .slice none 0 0] 26 (0, 0)) := by rw [← hwa, ← hR]; exact heap_new _ _
 have hoa : Only (fun _ => False) w wa := by rw [← hwa]; exact (Only.refl _ w).alloc _
 have J := hid (rtokens_any ⟨awkT8.toArray⟩ wa (by unfold maxLen; decide)); have HRR := hid hR; have HWA := hid hwa; have HRA := hid hra; have HOA := hid hoa; have hRw : w.heap.size ≤ R := by omega
 have FO := hid (show ∀ w' a1 c1, CellsAt w' (fun q => w.heap.size ≤ q) (docC awkD8) [.slice a1 1 c1, .slice none 0 0] → Only (fun _ => False) w w' → Q (.returned (.tuple #[.agg #[.slice a1 1 c1, .slice none 0 0], .int .i64 0, .int .i64 0])) w' from fun w' a1 c1 h2 h3 => by rw [← hQ]; exact ⟨a1, c1, rfl, h2, h3⟩); clear hR hwa hra hoa hQ; have ht : toks (⟨awkT8.toArray⟩ : ByteArray).data.toList = .ok tk9 := tk9_toks; rw [ht] at J; have HW := hid (toks_words tk9_toks); obtain ⟨he, hl⟩ := toks_end tk9_toks; obtain ⟨ts, hts⟩ := eX (tk9); have HS0 := hid (show S9 0 = .ok () ts from by rw [← hts]; rfl); rw [hts] at J HW he hl; have HE := hid he; have HL := hid hl; clear ht he hl hts
 go_enter Tryz.func12, Tryz.ntmps12
 go_upto_region 1 with (fail)
 rw [HRR.out, HWA.out]; clear HWA
 go_wp2_with fail
 refine J.out.mono ?_
 rintro e w1 ⟨v, rfl, hv, o1⟩; have hpos : 0 < ts.length := by have h1 := HE.out; cases ts with | nil => exact h1.elim | cons t u => simp
 obtain ⟨g, cg, rfl, hgB, hgz, -⟩ := own_range hv hpos; have htr := TRow.of_own hv hpos; obtain ⟨b, hb⟩ := eX (w1.heap.size); obtain ⟨w2, hw2⟩ := eX (w1.alloc (.cells #[.slice (some ⟨g, 0, none⟩) ts.length cg, .int .i64 0, .int .i64 0, .int .i64 0, .int .i64 0] 71)); have oa2 : Only (fun _ => False) w1 w2 := by rw [← hw2]; exact (Only.refl _ w1).alloc _
 have hb2 : w2.heap[b]? = some (.cells #[.slice (some ⟨g, 0, none⟩) ts.length cg, .int .i64 0, .int .i64 0, .int .i64 0, .int .i64 0] 71 (0, 0)) := by rw [← hw2, ← hb]; exact heap_new _ _
 obtain ⟨D, hD⟩ := eX (w2.heap.size); obtain ⟨w3, hw3⟩ := eX (w2.alloc (.cells #[.slice none 0 0, .slice none 0 0] 26)); have oa3 : Only (fun _ => False) w1 w3 := by rw [← hw3]; exact oa2.alloc _
 have hd3 : w3.heap[D]? = some (.cells #[.slice none 0 0, .slice none 0 0] 26 (0, 0)) := by rw [← hw3, ← hD]; exact heap_new _ _
 have hRz := (gE HRA.out).1; have hRb : R < b := by have := o1.size; omega
 have hbD : b < D := by rw [← hw2, World.size_alloc] at hD; omega
 have hR3 := ((o1.trans oa3).block R hRz (fun h => h)).trans HRA.out; obtain ⟨all, hall⟩ := eX ((⟨ts, 0⟩ : RL)); have hrd : Rf w3 b all (.ok () ts) := by
  rw [← hall]; exact ⟨0, 0, 0, 0, ⟨⟨g, 0, cg, by rw [← hw3]; exact heap_old hb2 _, htr.still oa3, by omega⟩, by show ts.length ≤ _; have := HL.out; omega, HW.out⟩, rfl, rfl, HE.out, 0, rfl, rfl, by show 0 + ts.length = ts.length; omega⟩
 rw [← HS0.out] at hrd; have HAD := hid (show all.dp = 0 by rw [← hall]); have HI := hid (show D9 w b D R all true w3 (.slice none 0 0) [] from ⟨hrd, hd3, hR3, OwnRow.nil _ _ _ _, rfl, (HOA.out.trans o1).trans oa3⟩); have HB := hid hb; have HW2 := hid hw2; have HD := hid hD; have HW3 := hid hw3; clear hb hw2 oa2 hb2 hrd htr hv o1 hgB hgz hpos J HE HL HW HRR HRA HOA hall hD hw3 oa3 hd3 hRz hR3 HS0
 go_upto_region 5 with (fail)
 rw [HB.out, HW2.out]; clear HB HW2
 go_upto_region 6 with (fail)
 rw [HD.out, HW3.out]; clear HD HW3
 go_wp2_with fail
 go_loopw [10] (fun v10 wr => ∃ first : Bool, v10 = .bool first ∧ Hid (∃ vO os, D9 w b D R all first wr vO os)) (fun v10 _ => bN v10)
 case atStart => exact ⟨true, rfl, hid ⟨_, _, HI.out⟩⟩
 case round =>
  obtain ⟨first, rfl, hrel⟩ := hrel; obtain ⟨vO, os, hdf⟩ := hrel.out; obtain ⟨aK, cK, eK, gK1, gK2, gK3⟩ := hdf.own.form; subst eK; have gK2n : cK ≤ 9223372036854775807 := by unfold maxLen at gK2; omega
  cases first with
  | false =>
   obtain rfl : os = [opC ⟨false, [], [], awkS8⟩] := hdf.row; have hrd : Rf wr b all (S9 15) := hdf.rd; have K := hid (fKind_any b all (S9 15) 0 wr hrd (by decide)); rw [show tst (S9 15) (isK 0) = true from by kernel_rfl] at K; obtain ⟨e0, ce, cz, hσ⟩ := hrd.err; have he0 : e0 = 0 := by rcases hσ with ⟨_, _, h⟩ | ⟨_, h, _⟩; exact h; cases h
   subst he0; have HDL := hid (gE hdf.box).1; have HDF := hid hdf; have HRD := hid hrd
   have HEND := hid (fun wz (o : Only (fun k => k = R) wr wz) => (show Q (.returned (.tuple #[.agg #[.slice aK 1 cK, .slice none 0 0], .int .i64 0, .int .i64 0])) wz from by
    have hcells : CellsAt wz (fun q => w.heap.size ≤ q) (docC awkD8) [.slice aK 1 cK, .slice none 0 0] := by
     have hw := hdf.own.only o (fun k h1 h2 e => by have e : k = R := e; omega); exact CellsAt.cons (CellAt.weaken (fun q _ h => by have h : D + 1 ≤ q := h; show w.heap.size ≤ q; omega) _ _ hw.cell) (CellsAt.cons (CellAt.nilRow _ _ _) (CellsAt.nil _ _))
    exact FO.out wz aK cK hcells (hdf.only.trans' o (fun q hq e => by have e : q = R := e; omega))))
   clear hdf hrd hσ gK2 gK3 hrel HI
   go_wp2_with fail
   refine K.out.mono ?_
   rintro e w3 ⟨rfl, o3⟩; obtain ⟨e9, ce', cz', hσ⟩ := (HRD.out.still o3).err; have he9 : e9 = 0 := by rcases hσ with ⟨_, _, h⟩ | ⟨_, h, _⟩; exact h; cases h
   subst he9; have HEND2 := hid (fun wz (o : Only (fun k => k = R) w3 wz) => HEND.out wz ((o3.mono (T := fun k => k = R) (fun _ _ h => h.elim)).trans o)); have HRS := hid (kB o3 HDF.out.res (fun h => h)); have HBX := hid ((o3.block D HDL.out (fun h => h)).trans HDF.out.box); clear o3 hσ ce cz
   go_upto_region 33 with (fail)
   clear ce' cz'; obtain ⟨d0, d1, dz⟩ := boxN2 HBX.out
   go_wp2_with ((refine wpList_store_box (o := ⟨none, _, _, _, _, _⟩) rfl 26 (.tmp 2) (.tmp 135) (by rfl) R [.slice none 0 0, .slice none 0 0] [.slice aK 1 cK, .slice none 0 0] (by rfl) (by rfl) HRS.out (by rfl) (by kernel_rfl) (by intro u hu; simp at hu; rcases hu with rfl | rfl <;> rfl) ?_; intro w9 k1 k2))
   clear d0 d1 dz; obtain ⟨y0, y1, -⟩ := boxN2 k1; exact bodyPost_ret (v := .tuple #[.agg #[.slice aK 1 cK, .slice none 0 0], .int .i64 0, .int .i64 0]) (by simp [results, Tryz.results12, go_sem, y0, y1]) rfl (HEND2.out w9 k2)
  | true =>
   obtain rfl : os = [] := hdf.row; have hrd : Rf wr b all (S9 0) := hdf.rd; have T := hid (fWord_any b all (S9 0) [102, 114, 97, 103, 109, 101, 110, 116] wr hrd); rw [show tst (S9 0) (isW [102, 114, 97, 103, 109, 101, 110, 116]) = false from by kernel_rfl] at T; have HDL := hid (gE hdf.box).1; have HDF := hid hdf; have HFK := hid gK3; have HRD := hid hrd; have HLB := hid hrd.lt; clear hdf hrd gK2 gK3 hrel HI
   go_wp2_with fail
   refine T.out.mono ?_
   rintro e w0 ⟨rfl, ou⟩; have HD0 := hid (HRD.out.still ou); have HO0 := hid (ou.mono (T := fun k => k = b) (fun _ _ h => h.elim)); clear ou T HRD; obtain ⟨Y, hY⟩ := eX (w0.heap.size); have HWY := hid (show wr.heap.size ≤ Y by have := HO0.out.size; omega); have hbY : b < Y := by have := HD0.out.lt; omega
   obtain ⟨w1, hw1⟩ := eX (w0.alloc (.cells #[.bool false, .string ⟨#[]⟩, .slice none 0 0, .slice none 0 0] 56)); have hy1 : w1.heap[Y]? = some (.cells #[.bool false, .string ⟨#[]⟩, .slice none 0 0, .slice none 0 0] 56 (0, 0)) := by rw [← hw1, ← hY]; exact heap_new _ _
   have oa1 : Only (fun _ => False) w0 w1 := by rw [← hw1]; exact (Only.refl _ _).alloc _
   have hd1 := HD0.out.still oa1; have J := hid (fSign_any b all (S9 0) [123] w1 hd1); rw [show tst (S9 0) (isS [123]) = true from by kernel_rfl] at J; have HY1 := hid hy1; have HD1 := hid hd1; have HO1 := hid (HO0.out.trans' oa1 (fun q _ e => e.elim)); have HW1 := hid hw1; have HYY := hid hY; clear hy1 hw1 hY oa1 HD0 HO0 hd1
   go_upto_region 19 with (fail)
   rw [HYY.out, HW1.out]; clear HYY HW1
   go_wp2_with fail
   refine J.out.mono ?_
   rintro e w2 ⟨rfl, o4⟩; have hd2 := HD1.out.still o4; have J := hid (fset9 b all HAD.out w2 hd2); have HY2 := hid (kB o4 HY1.out (fun h => h)); have HO2 := hid (HO1.out.trans' o4 (fun q hq e => by exact e.elim)); clear o4 HO1 HD1 HY1 hd2
   go_wp2_with fail
   refine J.out.mono ?_
   rintro e w3 ⟨v, rfl, ⟨ar3, lr3, cr3, rfl⟩, hd, hv, o4⟩; have hsy : Y < w2.heap.size := (gE HY2.out).1; rw [show ((S9 0).bind fun _ => setP 24).unit = S9 15 from by kernel_rfl] at hd; have hv := CellAt.weaken (G' := fun q => Y < q) (fun q _ h => by have h : w2.heap.size ≤ q := h; show Y < q; omega) _ _ (hv awkS8 (tk9.drop 15) (by kernel_rfl)); have HY3 := hid (kB o4 HY2.out (by omega)); have HO3 := hid (HO2.out.trans' o4 (fun q hq e => by exact e)); have HD3 := hid hd; have HV3 := hid hv; clear o4 HO2 HY2 hd hv hsy J; obtain ⟨y0, y1, y2, y3, yz⟩ := boxN4 HY3.out
   go_upto_region 30 with (fail)
   clear y0 y1 y2 y3 yz; have hy4 := heap_set (o := 3) HY3.out (.slice ar3 lr3 cr3); have hy4 : (w3.setCell ⟨Y, 3, none⟩ (.slice ar3 lr3 cr3)).heap[Y]? = some (.cells #[.bool false, .string ⟨#[]⟩, .slice none 0 0, .slice ar3 lr3 cr3] 56 (0, 0)) := by simpa using hy4
   have os4 : Only (fun k => k = Y) w3 (w3.setCell ⟨Y, 3, none⟩ (.slice ar3 lr3 cr3)) := (Only.refl (fun k => k = Y) _).setCell (p := ⟨Y, 3, none⟩) (.inl rfl) _; obtain ⟨w4, hw4⟩ := eX (w3.setCell ⟨Y, 3, none⟩ (.slice ar3 lr3 cr3)); rw [hw4] at hy4 os4; rw [hw4]; clear hw4; have hro : CellsAt w4 (fun q => Y < q ∧ q < w4.heap.size) (opC ⟨false, [], [], awkS8⟩) [.bool false, .string ⟨#[]⟩, .slice none 0 0, .slice ar3 lr3 cr3] := CellsAt.lit rfl (CellsAt.lit rfl (CellsAt.cons (CellAt.nilRow _ _ _) (CellsAt.cons (CellAt.weaken (G' := fun q => Y < q ∧ q < w4.heap.size) (fun q hq h => ⟨h, hq⟩) _ _ (CellAt.only os4 (fun k hk e => by have hk : Y < k := hk; have e : k = Y := e; omega) _ _ HV3.out)) (CellsAt.nil _ _)))); have hb4 := os4; have HY4 := hid hy4; have HD4 := hid (HD3.out.only os4 (fun k hk e => by have e : k = Y := e; omega)); have HROW := hid hro; have HO4 := hid (HO3.out.trans' os4 (fun q hq e => by have e : q = Y := e; have := HWY.out; omega)); clear hy4 os4 hro hb4 HO3 HD3 HY3 HV3; obtain ⟨row, hrow⟩ := eX (opC ⟨false, [], [], awkS8⟩); rw [hrow] at HROW; have HRX := hid hrow; clear hrow; obtain ⟨G, hG⟩ := eX (w4.heap.size); obtain ⟨wA, hwa⟩ := eX (w4.alloc (.cells #[.bool false, .string ⟨#[]⟩, .slice none 0 0, .slice ar3 lr3 cr3] 56)); have og : Only (fun _ => False) w4 wA := by rw [← hwa]; exact (Only.refl _ _).alloc _
   have hgg : wA.heap[G]? = some (.cells #[.bool false, .string ⟨#[]⟩, .slice none 0 0, .slice ar3 lr3 cr3] 56 (0, 0)) := by rw [← hwa, ← hG]; exact heap_new _ _
   have hgs : G + 1 = wA.heap.size := by rw [← hwa, World.size_alloc, hG]
   have hgw : wr.heap.size ≤ G := by have := HO4.out.size; omega
   have HOA := hid (HO4.out.trans' og (fun q _ e => e.elim)); have HWW := hid (HDF.out.own.only HOA.out (fun k h1 h2 e => by have e : k = b := e; omega)); have HRA := hid (show CellsAt wA (fun q => D + 1 ≤ q ∧ (Value.slice aK 0 cK).ownBlock ≠ some q ∧ q < wA.heap.size) row [.bool false, .string ⟨#[]⟩, .slice none 0 0, .slice ar3 lr3 cr3] from CellsAt.weaken (fun q hq h => by have h1 : Y < q := h.1; have := HWY.out; have := HDL.out; exact ⟨by omega, fun e => by have := (HFK.out q e).2; omega, hq⟩) _ _ (CellsAt.only og (fun _ _ h => h) _ _ HROW.out)); have HDA := hid (HD4.out.still og); have HBn := hid ((HO4.out.block D HDL.out (by omega)).trans HDF.out.box); have HBA := hid ((HOA.out.block D HDL.out (by omega)).trans HDF.out.box); have HRS := hid ((HOA.out.block R (gE HDF.out.res).1 (by omega)).trans HDF.out.res); obtain ⟨xs, p1', p2'⟩ := HWW.out; have hys : ∀ j u, ([.bool false, .string ⟨#[]⟩, .slice none 0 0, .slice ar3 lr3 cr3] : List Value)[j]? = some u → wA.cell? ((⟨G, 0, none⟩ : Addr).add j) = some u := fun j u hu => by rw [addr_add]; exact range_of_block (cs := [.bool false, .string ⟨#[]⟩, .slice none 0 0, .slice ar3 lr3 cr3]) hgg j u hu
   have hone : ∀ u ∈ ([.bool false, .string ⟨#[]⟩, .slice none 0 0, .slice ar3 lr3 cr3] : List Value), u.oneCell' = true := by intro u hu; simp at hu; rcases hu with rfl | rfl | rfl | rfl <;> rfl
   have HYS := hid hys; have HONE := hid hone; have HP1 := hid p1'; have HP2 := hid p2'; have HG := hid hG; have HWA := hid hwa; have HGS := hid hgs; have HGW := hid hgw; clear hys hone p1' p2' hG hwa hgs hgg og hgw; obtain ⟨y0, y1, y2, y3, yz⟩ := boxN4 HY4.out; obtain ⟨c0, c1, cz⟩ := boxN2 HBn.out
   go_wp2_with ((rw [HG.out, HWA.out]; refine wpList_append_own2 (o := ⟨some 119, _, _, _, _, _⟩) rfl (.tmp 116) (.tmp 118) 23 56 (by rfl) Tryz.underlying23 infoOp rfl (by decide) (D + 1) (.slice aK 0 cK) 0 1 1 xs [.bool false, .string ⟨#[]⟩, .slice none 0 0, .slice ar3 lr3 cr3] ⟨G, 0, none⟩ (by rfl) (by rfl) HP1.out (by rfl) HYS.out HONE.out (by unfold maxLen; omega) (by omega) (by have := HGS.out; have := HGW.out; have := HDL.out; omega) ?_; intro v' wZ q1 q2 q3; obtain ⟨aN, cN, eN, gL1, gL2, -⟩ := own_form q1; subst eN; clear c0 c1 cz y0 y1 y2 y3 yz; obtain ⟨c0, c1, cz⟩ := boxN2 ((q2.block D (gE HBA.out).1 (fun e => by have := (HFK.out D e).1; omega)).trans HBA.out)))
   have hF := HFK.out; have hrow2 := OwnRow.append HP1.out HP2.out rfl HRA.out q1 q2 q3; have hdd := HDA.out.only q2 (fun k hk h => by have := (hF k h).1; omega); have hbx := (q2.block D (gE HBA.out).1 (fun e => by have := (hF D e).1; omega)).trans HBA.out; have hrs := (q2.block R (gE HRS.out).1 (fun e => by have := (hF R e).1; omega)).trans HRS.out; have hoo : Only (fun _ => False) w wZ := (HDF.out.only.trans' HOA.out (fun q hq e => by have e : q = b := e; omega)).trans' q2 (fun q hq h => by have := (hF q h).1; omega); have oy : Only (fun k => k = D) wZ (wZ.setCell ⟨D, 0, none⟩ (.slice aN 1 cN)) := (Only.refl (fun k => k = D) wZ).setCell (p := ⟨D, 0, none⟩) (.inl rfl) _; have hB6 := heap_set (o := 0) hbx (.slice aN 1 cN); have hB6 : (wZ.setCell ⟨D, 0, none⟩ (.slice aN 1 cN)).heap[D]? = some (.cells #[.slice aN 1 cN, .slice none 0 0] 26 (0, 0)) := by simpa using hB6
   have hnew : D9 w b D R all false (wZ.setCell ⟨D, 0, none⟩ (.slice aN 1 cN)) (.slice aN 1 cN) [row] :=
    ⟨hdd.only oy (fun k hk e => by have e : k = D := e; omega), hB6, kB oy hrs (by omega), hrow2.only oy (fun k h1 h2 e => by have e : k = D := e; omega), by rw [HRX.out]; rfl, hoo.trans' oy (fun q hq e => by have e : q = D := e; omega)⟩
   have HNEW := hid hnew; clear hnew hoo hdd hB6 hbx hrs oy hrow2 q1 q2 q3 gL1 gL2 hF HRA HDA HBA HBn HRS HOA HWW HO4 HY4
   go_wp2_with fail
   go_roundw
   case rel => first | exact ⟨false, rfl, hid ⟨_, _, HNEW.out⟩⟩ | ((repeat apply Exists.intro); refine ⟨?_, rfl⟩; exact ⟨false, rfl, hid ⟨_, _, HNEW.out⟩⟩)
   case measure => decide
theorem awk8_good : GoodDoc awkD8 := by
 have nv : ∀ n : Int, NumOk n → GoodV false 22 (.mk 1 n [] [] []) := fun n h => .inl ⟨rfl, h, rfl, rfl, rfl⟩
 refine ⟨fun o ho => ?_, fun f hf => by cases hf⟩
 simp only [awkD8, List.mem_singleton] at ho; subst ho; refine ⟨.inl rfl, (fun v hv => by cases hv), ⟨by simp [awkS8], fun x hx => ?_⟩⟩
 simp only [awkS8, List.mem_cons, List.not_mem_nil, or_false] at hx
 rcases hx with rfl | rfl
 ·refine ⟨(fun x hx => by cases hx), .inl ⟨rfl, rfl, .inr (nameOk_of (by decide)), nameOk_of (by decide), fun a ha => ?_, .inl rfl⟩⟩
  rw [List.mem_singleton] at ha; subst ha; refine ⟨nameOk_of (by decide), .inr (.inr (.inr (.inr (.inr (.inr (.inl ⟨rfl, rfl, rfl, rfl, fun v hv => ?_⟩))))))⟩
  simp only [List.mem_cons, List.not_mem_nil, or_false] at hv
  rcases hv with rfl | rfl
  ·exact nv 1 (by unfold NumOk; decide)
  ·exact nv 2 (by unfold NumOk; decide)
 ·exact ⟨(fun x hx => by cases hx), .inr (.inl ⟨rfl, rfl, rfl, nameOk_of (by decide), by decide, rfl, rfl⟩)⟩
set_option maxRecDepth 100000 in
set_option maxHeartbeats 4000000 in
theorem awake08 (w : World) (ht : Tab w) : Calls Tryz.prog 11 #[] w fun e w' => e = .returned (.bool true) ∧ Only (fun _ => False) w w' := by
 have T := hid (fdoc9 w); have HT := hid ht; clear ht
 go_enter Tryz.func11, Tryz.ntmps11
 go_wp2_with fail
 refine T.out.mono ?_
 rintro e w1 ⟨a1, c1, rfl, hd, ho⟩; obtain ⟨wA, hwA⟩ := eX (w1.alloc (.cells #[.slice a1 1 c1, .slice none 0 0] 26)); have oa : Only (fun _ => False) w1 wA := by rw [← hwA]; exact (Only.refl _ w1).alloc _
 have hbx := heap_new w1 (.cells #[.slice a1 1 c1, .slice none 0 0] 26); rw [hwA] at hbx; have J := hid (ppD_any awkD8 awk8_good _ wA _ _ (CellsAt.only oa (fun _ _ h => h) _ _ hd) (HT.out.still (ho.trans oa)) (by rw [awk8_text]; decide)); rw [awk8_text] at J; obtain ⟨B, hB⟩ := eX (w1.heap.size); rw [hB] at hbx; obtain ⟨q0, q1, -⟩ := boxN2 hbx; have HO := hid (ho.trans oa); have HWA := hid hwA; have HB := hid hB; clear hd ho T oa hwA hB hbx
 go_upto_region 2 with (fail)
 rw [HB.out, HWA.out]
 go_wp2_with fail
 refine J.out.mono ?_
 rintro e w2 ⟨rfl, o2⟩; have HO2 := hid (HO.out.trans o2); clear o2 q0 q1
 go_wp2_with fail
 go_ret
 exact ⟨by rfl, HO2.out⟩
end Go.Proofs.YtnkpoddbbdmipaaGreatDoor
