/- . -/
import Derived.Below
import Derived.Test.YtnkpoddbbdmipaaGreatDoorTTyAw9
import Derived.Test.YtnkpoddbbdmipaaGreatDoorTTyCns
import Derived.Test.YtnkpoddbbdmipaaGreatDoorTTyTyb
import Derived.Test.YtnkpoddbbdmipaaGreatDoorTTyRgu
import Derived.Test.YtnkpoddbbdmipaaGreatDoorTTySmf
namespace Go.Proofs.YtnkpoddbbdmipaaGreatDoor
open Go Go.RowKit
open Go.Lib (hid)
set_option linter.unusedVariables false
set_option linter.unusedSimpArgs false
set_option maxRecDepth 100000 in
set_option maxHeartbeats 16000000 in
theorem ptypes_walk (a0 : ByteArray) (w : World) (hs : a0.size ≤ maxLen) (ht : Tab w) :
  Calls Tryz.prog 9 #[.string a0] w fun e w' => e = .returned (.bool true) ∧ Below w.heap.size w w' := by
 have HT := hid ht; have JA := hid (fun (wx : World) (ox : Only (fun _ => False) w wx) => awake08 wx (ht.still ox)); have J := hid (JA.out w oR); have HS := hid hs; have hs : a0.size ≤ 9223372036854775807 := hs; clear ht
 go_enter Tryz.func9, Tryz.ntmps9
 go_wp2_with fail
 refine J.out.mono ?_
 rintro e w1 ⟨rfl, o1⟩; have HO1 := hid o1; clear o1 J
 by_cases hl : 1200 < a0.size
 ·have J := hid (JA.out w1 HO1.out)
  go_wp2_with fail
  refine J.out.mono ?_
  rintro e w2 ⟨rfl, o2⟩; have HO2 := hid (HO1.out.trans o2); clear o2
  go_wp2_with fail
  go_ret
  exact ⟨rfl, HO2.out.below (Nat.le_refl _) (fun _ _ h => h)⟩
 ·obtain ⟨D, hD⟩ : ∃ D : TR1, tysP a0.data.toList = D := ⟨_, rfl⟩; have J := ftypes_any a0 w1 HS.out; rw [hD] at J; have HJ := hid J; have HD := hid hD; clear J hD HS
  go_wp2_with fail
  clear hl hs
  cases D with
  | bad p c =>
   have hc : ((c : Int) != 0) = true := by
    have := tysP_bad HD.out; simp; omega
   refine HJ.out.mono ?_
   rintro e w4 ⟨rfl, o4⟩; have HO4 := hid (HO1.out.trans o4); clear o4 HJ
   go_wp2_with fail
   go_ret
   exact ⟨rfl, HO4.out.below (Nat.le_refl _) (fun _ _ h => h)⟩
  | ok dd =>
   obtain ⟨hne, hg⟩ := tysP_good HD.out; have hz := tysP_size HD.out; have hbk := tysP_back HD.out; obtain ⟨n1, hn1⟩ := eX (dd.length)
   have HR := hid (show ∀ (wx : World) (q : List UInt8), tysP q = .ok dd → ∀ e w', TysResF wx (tysP q) e w' → ∃ a1 c1, e = .returned (.tuple #[.slice a1 n1 c1, .int .i64 0, .int .i64 0]) ∧ CellAt w' (fun q => wx.heap.size ≤ q) (.row 4 (dd.map tdC)) (.slice a1 n1 c1) ∧ Only (fun _ => False) wx w' from fun wx q hq e w' h => by
    rw [hq] at h; rw [← hn1]; exact h)
   have HJ := hid (HJ.out.mono (fun e w' h => HR.out w1 a0.data.toList HD.out e w' (by rw [HD.out]; exact h))); clear hn1; have HPP := hid (fun (wx : World) (ox : Only (fun _ => False) w wx) (G : Nat → Prop) (v : Value) (h : CellAt wx G (.row 4 (dd.map tdC)) v) => ppTs_any dd (fun t ht => goodTd_wellQ (hg t ht)) G wx v h (HT.out.still ox) (by omega)); have HPR := hid (fun (wx : World) (G : Nat → Prop) (v : Value) (h : CellAt wx G (.row 4 (dd.map tdC)) v) => prTs_any dd (fun t ht => goodTd_well (hg t ht)) G wx v h (by omega)); obtain ⟨q, hq⟩ := eX (ren (tysI dd)); rw [hq] at hz hbk HPP HPR; have HZ := hid hz; have HBK := hid hbk; clear hz hbk hq hg hne HD HT; refine HJ.out.mono ?_
   rintro e w2 ⟨a1, c1, rfl, hd, o2⟩; have HOA := hid (HO1.out.trans o2); have HDD := hid hd; have J := hid (HPP.out w2 HOA.out _ _ hd); clear hd o2 HJ HO1
   go_wp2_with fail
   refine J.out.mono ?_
   rintro e w3 ⟨rfl, o3⟩; have HO3 := hid (HOA.out.trans o3); have O3 := hid o3; clear o3 J; obtain ⟨D2, hD2⟩ : ∃ D : TR1, tysP q = D := ⟨_, rfl⟩; have J := ftypes_any ⟨q.toArray⟩ w3 (by show q.length ≤ 2 ^ 63 - 1; have := HZ.out; omega); rw [show (⟨q.toArray⟩ : ByteArray).data.toList = q from rfl, hD2] at J; have hbk := HBK.out; rw [hD2] at hbk; have HJ := hid J; have HD2 := hid hD2; clear J hD2 HBK
   go_wp2_with fail
   rcases hbk with rfl | rfl
   ·have HJ := hid (HJ.out.mono (fun e w' h => HR.out w3 q HD2.out e w' (by rw [HD2.out]; exact h))); clear HD2; refine HJ.out.mono ?_
    rintro e w4 ⟨a2, c2, rfl, hm, o4⟩; have HOB := hid (HO3.out.trans o4); have OB := hid (O3.out.trans o4); have HMM := hid hm; have J := hid (HPR.out w4 _ _ (CellAt.only OB.out (fun _ _ h => h) _ _ HDD.out)); clear hm o4 HJ HO3 O3 HOA
    go_wp2_with fail
    refine J.out.mono ?_
    rintro e w5 ⟨rfl, o5⟩; have HO5 := hid (HOB.out.trans o5); have O5 := hid (OB.out.trans o5); have hd := CellAt.only O5.out (fun _ _ h => h) _ _ HDD.out; have hm := CellAt.only o5 (fun _ _ h => h) _ _ HMM.out; have J := hid (sameTDs dd _ _ w5 _ _ hd hm); clear o5 hd hm HMM HOB OB
    go_wp2_with fail
    refine J.out.mono ?_
    rintro e w6 ⟨rfl, o6⟩; have HO6 := hid (HO5.out.trans o6); clear o6
    go_wp2_with fail
    go_ret
    exact ⟨rfl, HO6.out.below (Nat.le_refl _) (fun _ _ h => h)⟩
   ·refine HJ.out.mono ?_
    rintro e w4 ⟨rfl, o4⟩; have HOB := hid (HO3.out.trans o4); have OB := hid (O3.out.trans o4); have J := hid (HPR.out w4 _ _ (CellAt.only OB.out (fun _ _ h => h) _ _ HDD.out)); clear o4 HJ
    go_wp2_with fail
    refine J.out.mono ?_
    rintro e w5 ⟨rfl, o5⟩; have HO5 := hid (HOB.out.trans o5); clear o5
    go_wp2_with fail
    go_ret
    exact ⟨rfl, HO5.out.below (Nat.le_refl _) (fun _ _ h => h)⟩
end Go.Proofs.YtnkpoddbbdmipaaGreatDoor
