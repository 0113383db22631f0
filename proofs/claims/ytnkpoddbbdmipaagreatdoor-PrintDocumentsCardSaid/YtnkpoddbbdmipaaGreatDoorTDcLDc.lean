/- . -/
import Derived.Below
import Derived.Test.YtnkpoddbbdmipaaGreatDoorTDcCns
import Derived.Test.YtnkpoddbbdmipaaGreatDoorTDcCnd
import Derived.Test.YtnkpoddbbdmipaaGreatDoorTDcPrz
import Derived.Test.YtnkpoddbbdmipaaGreatDoorTDcSmd
namespace Go.Proofs.YtnkpoddbbdmipaaGreatDoor
open Go Go.RowKit
open Go.Lib (hid)
set_option linter.unusedVariables false
set_option linter.unusedSimpArgs false
theorem docP_bad {s : List UInt8} {a e : Nat} (h : docP s = .bad a e) : e ≠ 0 := by
 unfold docP at h
 cases ht : toks s with
 | bad x c =>
  rw [ht] at h; have h : DR1.bad x c = .bad a e := h
  injection h with _ h; subst h; exact toks_bad ht
 | ok ts =>
  rw [ht] at h; have h : (match docF (ts.length + 1) ⟨[], []⟩ ts with | .ok d _ => DR1.ok d | .bad a e => .bad a e) = .bad a e := h
  cases hd : docF (ts.length + 1) ⟨[], []⟩ ts with
  | ok d r => rw [hd] at h; cases h
  | bad x c => rw [hd] at h; injection h with _ h; subst h; exact docF_bad hd
set_option maxRecDepth 100000 in
set_option maxHeartbeats 16000000 in
theorem pdocuments_walk (a0 : ByteArray) (w : World) (hs : a0.size ≤ maxLen) (ht : Tab w) :
  Calls Tryz.prog 3 #[.string a0] w fun e w' => e = .returned (.bool true) ∧ Below w.heap.size w w' := by
 have HT := hid ht; have JA := hid (fun (wx : World) (ox : Only (fun _ => False) w wx) => awake08 wx (ht.still ox)); have J := hid (JA.out w oR); have HS := hid hs; have hs : a0.size ≤ 9223372036854775807 := hs; clear ht
 go_enter Tryz.func3, Tryz.ntmps3
 go_wp2_with fail
 refine J.out.mono ?_
 rintro e w1 ⟨rfl, o1⟩; have HO1 := hid o1; clear o1 J
 by_cases hl : 1200 < a0.size
 ·have J := hid (JA.out w1 HO1.out)
  go_wp2_with fail
  refine J.out.mono ?_
  rintro e w2 ⟨rfl, o2⟩; have HO2 := hid (HO1.out.trans o2); clear o2
  go_wp2_with fail
  go_ret
  exact ⟨rfl, HO2.out.below (Nat.le_refl _) (fun _ _ h => h)⟩
 ·obtain ⟨D, hD⟩ : ∃ D : DR1, docP a0.data.toList = D := ⟨_, rfl⟩; have J := fdocument_any a0 w1 HS.out; rw [hD] at J; have HJ := hid J; have HD := hid hD; clear J hD HS
  go_wp2_with fail
  clear hl hs
  cases D with
  | bad p c =>
   have hc : ((c : Int) != 0) = true := by
    have := docP_bad HD.out; simp; omega
   refine HJ.out.mono ?_
   rintro e w4 ⟨rfl, o4⟩; have HO4 := hid (HO1.out.trans o4); obtain ⟨wA, hwA⟩ := eX (w4.alloc (.cells #[.slice none 0 0, .slice none 0 0] 26)); have oa : Only (fun _ => False) w4 wA := by rw [← hwA]; exact (Only.refl _ w4).alloc _
   have HO5 := hid (HO4.out.trans oa); have HWA := hid hwA; clear oa o4 HJ hwA
   go_upto_region 4 with (fail)
   rw [HWA.out]
   go_wp2_with fail
   go_ret
   exact ⟨rfl, HO5.out.below (Nat.le_refl _) (fun _ _ h => h)⟩
  | ok dd =>
   obtain ⟨hg, hne⟩ := docP_good HD.out; have hz := docP_size HD.out; have hbk := docP_back HD.out; obtain ⟨n1, hn1⟩ := eX (dd.ops.length); obtain ⟨n2, hn2⟩ := eX (dd.frags.length)
   have HR := hid (show ∀ (wx : World) (q : List UInt8), docP q = .ok dd → ∀ e w', DocResF wx (docP q) e w' → ∃ a1 c1 a2 c2, e = .returned (.tuple #[.agg #[.slice a1 n1 c1, .slice a2 n2 c2], .int .i64 0, .int .i64 0]) ∧ CellsAt w' (fun q => wx.heap.size ≤ q) (docC dd) [.slice a1 n1 c1, .slice a2 n2 c2] ∧ Only (fun _ => False) wx w' from fun wx q hq e w' h => by
    rw [hq] at h; rw [← hn1, ← hn2]; exact h)
   have HJ := hid (HJ.out.mono (fun e w' h => HR.out w1 a0.data.toList HD.out e w' (by rw [HD.out]; exact h))); clear hn1 hn2; have HPP := hid (fun (wx : World) (ox : Only (fun _ => False) w wx) (G : Nat → Prop) (x y : Value) (h : CellsAt wx G (docC dd) [x, y]) => ppD_any dd hg G wx x y h (HT.out.still ox) (by omega)); have HPR := hid (fun (wx : World) (G : Nat → Prop) (x y : Value) (h : CellsAt wx G (docC dd) [x, y]) => prD_any dd hg G wx x y h (by omega)); obtain ⟨q, hq⟩ := eX (ren (docI dd)); rw [hq] at hz hbk HPP HPR; have HZ := hid hz; have HBK := hid hbk; clear hz hbk hq hg hne HD HT; refine HJ.out.mono ?_
   rintro e w2 ⟨a1, c1, b1, d1, rfl, hd, o2⟩; obtain ⟨wA, hwA⟩ := eX (w2.alloc (.cells #[.slice a1 n1 c1, .slice b1 n2 d1] 26)); have oa : Only (fun _ => False) w2 wA := by rw [← hwA]; exact (Only.refl _ w2).alloc _
   have hbx := heap_new w2 (.cells #[.slice a1 n1 c1, .slice b1 n2 d1] 26); rw [hwA] at hbx; obtain ⟨bD, hbD⟩ := eX (w2.heap.size); rw [hbD] at hbx; obtain ⟨x1, y1, -⟩ := boxN2 hbx; have HOA := hid (HO1.out.trans (o2.trans oa)); have hd := CellsAt.only oa (fun _ _ h => h) _ _ hd; have HDD := hid hd; have J := hid (HPP.out wA HOA.out _ _ _ hd); have HW := hid hwA; have HB := hid hbD; clear hwA oa hbx hbD hd o2 HJ HO1
   go_upto_region 4 with (fail)
   rw [HB.out, HW.out]; clear HB HW
   go_wp2_with fail
   refine J.out.mono ?_
   rintro e w3 ⟨rfl, o3⟩; have HO3 := hid (HOA.out.trans o3); have O3 := hid o3; have x1 := keepc o3 x1; have y1 := keepc o3 y1; clear o3 J; obtain ⟨D2, hD2⟩ : ∃ D : DR1, docP q = D := ⟨_, rfl⟩; have J := fdocument_any ⟨q.toArray⟩ w3 (by show q.length ≤ 2 ^ 63 - 1; have := HZ.out; omega); rw [show (⟨q.toArray⟩ : ByteArray).data.toList = q from rfl, hD2] at J; have hbk := HBK.out; rw [hD2] at hbk; have HJ := hid J; have HD2 := hid hD2; clear J hD2 HBK
   go_wp2_with fail
   rcases hbk with rfl | rfl
   ·have HJ := hid (HJ.out.mono (fun e w' h => HR.out w3 q HD2.out e w' (by rw [HD2.out]; exact h))); clear HD2; refine HJ.out.mono ?_
    rintro e w4 ⟨a2, c2, b2, d2, rfl, hm, o4⟩; obtain ⟨wB, hwB⟩ := eX (w4.alloc (.cells #[.slice a2 n1 c2, .slice b2 n2 d2] 26)); have oa : Only (fun _ => False) w4 wB := by rw [← hwB]; exact (Only.refl _ w4).alloc _
    have hbx := heap_new w4 (.cells #[.slice a2 n1 c2, .slice b2 n2 d2] 26); rw [hwB] at hbx; obtain ⟨bM, hbM⟩ := eX (w4.heap.size); rw [hbM] at hbx; obtain ⟨x2, y2, -⟩ := boxN2 hbx; have ob := o4.trans oa; have HOB := hid (HO3.out.trans ob); have OB := hid (O3.out.trans ob); have x1 := keepc ob x1; have y1 := keepc ob y1; have hm := CellsAt.only oa (fun _ _ h => h) _ _ hm; have HMM := hid hm; have J := hid (HPR.out wB _ _ _ (CellsAt.only OB.out (fun _ _ h => h) _ _ HDD.out)); have HW := hid hwB; have HB := hid hbM; clear hwB oa hbx hbM hm o4 HJ ob HO3 O3 HOA
    go_upto_region 8 with (fail)
    rw [HB.out, HW.out]; clear HB HW
    go_wp2_with fail
    refine J.out.mono ?_
    rintro e w5 ⟨rfl, o5⟩; have HO5 := hid (HOB.out.trans o5); have O5 := hid (OB.out.trans o5); have x1 := keepc o5 x1; have y1 := keepc o5 y1; have x2 := keepc o5 x2; have y2 := keepc o5 y2; have hd := CellsAt.only O5.out (fun _ _ h => h) _ _ HDD.out; have hm := CellsAt.only o5 (fun _ _ h => h) _ _ HMM.out; have J := hid (sameD_true dd _ _ w5 _ _ _ _ hd hm); have HM5 := hid hm; clear o5 hd hm HMM HOB OB
    go_wp2_with fail
    refine J.out.mono ?_
    rintro e w6 ⟨rfl, o6⟩; have HO6 := hid (HO5.out.trans o6); have x1 := keepc o6 x1; have y1 := keepc o6 y1; have x2 := keepc o6 x2; have y2 := keepc o6 y2; have J := hid (HPP.out w6 HO6.out _ _ _ (CellsAt.only o6 (fun _ _ h => h) _ _ HM5.out)); clear o6 HM5
    go_wp2_with fail
    refine J.out.mono ?_
    rintro e w7 ⟨rfl, o7⟩; have HO7 := hid (HO6.out.trans o7); clear o7 x1 y1 x2 y2
    go_wp2_with fail
    go_ret
    exact ⟨rfl, HO7.out.below (Nat.le_refl _) (fun _ _ h => h)⟩
   ·refine HJ.out.mono ?_
    rintro e w4 ⟨rfl, o4⟩; obtain ⟨wB, hwB⟩ := eX (w4.alloc (.cells #[.slice none 0 0, .slice none 0 0] 26)); have oa : Only (fun _ => False) w4 wB := by rw [← hwB]; exact (Only.refl _ w4).alloc _
    have ob := o4.trans oa; have HOB := hid (HO3.out.trans ob); have OB := hid (O3.out.trans ob); have x1 := keepc ob x1; have y1 := keepc ob y1; have J := hid (HPR.out wB _ _ _ (CellsAt.only OB.out (fun _ _ h => h) _ _ HDD.out)); have HW := hid hwB; clear hwB oa o4 ob HJ
    go_upto_region 8 with (fail)
    rw [HW.out]; clear HW
    go_wp2_with fail
    refine J.out.mono ?_
    rintro e w5 ⟨rfl, o5⟩; have HO5 := hid (HOB.out.trans o5); clear o5 x1 y1
    go_wp2_with fail
    go_ret
    exact ⟨rfl, HO5.out.below (Nat.le_refl _) (fun _ _ h => h)⟩
end Go.Proofs.YtnkpoddbbdmipaaGreatDoor
