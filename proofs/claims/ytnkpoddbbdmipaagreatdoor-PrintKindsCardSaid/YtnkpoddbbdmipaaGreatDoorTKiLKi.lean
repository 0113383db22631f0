/- . -/
import Derived.Below
import Derived.Test.YtnkpoddbbdmipaaGreatDoorTKiAw9
import Derived.Test.YtnkpoddbbdmipaaGreatDoorTKiCns
import Derived.Test.YtnkpoddbbdmipaaGreatDoorTKiTyb
import Derived.Test.YtnkpoddbbdmipaaGreatDoorTKiRgu
import Derived.Test.YtnkpoddbbdmipaaGreatDoorTKiSfg
namespace Go.Proofs.YtnkpoddbbdmipaaGreatDoor
open Go Go.RowKit
open Go.Lib (hid)
set_option linter.unusedVariables false
set_option linter.unusedSimpArgs false
theorem tys_inj {l m : List TD} (h : ∀ t ∈ l, GoodTd t) (hne : l ≠ []) (h' : ∀ t ∈ m, GoodTd t) (hne' : m ≠ []) (e : ren (tysI l) = ren (tysI m)) : l = m := by
 obtain ⟨ts, a1, r1, b1⟩ := tys_again h hne; obtain ⟨us, a2, r2, b2⟩ := tys_again h' hne'; rw [e, a2] at a1
 injection a1 with a1
 subst a1; rw [b2] at b1
 injection b1 with b1
 exact b1.symm
set_option maxRecDepth 100000 in
set_option maxHeartbeats 16000000 in
theorem pkinds_walk (a0 a1 : ByteArray) (w : World) (hs0 : a0.size ≤ 140737488351232) (hs1 : a1.size ≤ 140737488351232) (ht : Tab w) :
  Calls Tryz.prog 10 #[.string a0, .string a1] w fun e w' => e = .returned (.bool true) ∧ Below w.heap.size w w' := by
 have HT := hid ht; have JA := hid (fun (wx : World) (ox : Only (fun _ => False) w wx) => awake08 wx (ht.still ox)); have J := hid (JA.out w oR); have HS0 := hid (show a0.size ≤ maxLen by unfold maxLen; omega); have HS1 := hid (show a1.size ≤ maxLen by unfold maxLen; omega); clear ht
 go_enter Tryz.func10, Tryz.ntmps10
 go_wp2_with fail
 refine J.out.mono ?_
 rintro e w1 ⟨rfl, o1⟩; have HO1 := hid o1; clear o1 J
 by_cases hl : 1800 < a0.size + a1.size
 ·have J := hid (JA.out w1 HO1.out); have t1 : decide ((a0.size : Int) + (a1.size : Int) > 1800) = true := decide_eq_true (by omega)
  go_wp2_with fail
  refine J.out.mono ?_
  rintro e w2 ⟨rfl, o2⟩; have HO2 := hid (HO1.out.trans o2); clear o2
  go_wp2_with fail
  go_ret
  exact ⟨rfl, HO2.out.below (Nat.le_refl _) (fun _ _ h => h)⟩
 have t1 : decide ((a0.size : Int) + (a1.size : Int) > 1800) = false := decide_eq_false (by omega); obtain ⟨D, hD⟩ : ∃ D : TR1, tysP a0.data.toList = D := ⟨_, rfl⟩; obtain ⟨E, hE⟩ : ∃ D : TR1, tysP a1.data.toList = D := ⟨_, rfl⟩; have J := ftypes_any a0 w1 HS0.out; have K := hid (fun (wx : World) => ftypes_any a1 wx HS1.out); rw [hD] at J; rw [hE] at K; have HJ := hid J; have HD := hid hD; have HE := hid hE; clear J hD hE HS0 HS1 JA
 go_wp2_with fail
 clear hl hs0 hs1 t1
 cases D with
 | bad p c =>
  have hc : ((c : Int) != 0) = true := by
   have := tysP_bad HD.out; simp; omega
  refine HJ.out.mono ?_
  rintro e w4 ⟨rfl, o4⟩; have HO4 := hid (HO1.out.trans o4); have HK := hid (K.out w4); clear o4 HJ K
  go_wp2_with fail
  cases E with
  | bad p2 c2 =>
   refine HK.out.mono ?_
   rintro e w5 ⟨rfl, o5⟩; have HO5 := hid (HO4.out.trans o5); clear o5 HK
   go_wp2_with fail
   go_ret
   exact ⟨rfl, HO5.out.below (Nat.le_refl _) (fun _ _ h => h)⟩
  | ok ee =>
   refine HK.out.mono ?_
   rintro e w5 ⟨a1, c1, rfl, -, o5⟩; have HO5 := hid (HO4.out.trans o5); clear o5 HK
   go_wp2_with fail
   go_ret
   exact ⟨rfl, HO5.out.below (Nat.le_refl _) (fun _ _ h => h)⟩
 | ok dd =>
  refine HJ.out.mono ?_
  rintro e w2 ⟨a2, c2, rfl, hd, o2⟩; have HO2 := hid (HO1.out.trans o2); have HK := hid (K.out w2); have HDD := hid hd; clear o2 hd HJ K HO1
  go_wp2_with fail
  cases E with
  | bad p2 c2 =>
   have hc : ((c2 : Int) != 0) = true := by
    have := tysP_bad HE.out; simp; omega
   refine HK.out.mono ?_
   rintro e w5 ⟨rfl, o5⟩; have HO5 := hid (HO2.out.trans o5); clear o5 HK
   go_wp2_with fail
   go_ret
   exact ⟨rfl, HO5.out.below (Nat.le_refl _) (fun _ _ h => h)⟩
  | ok ee =>
   obtain ⟨hne, hg⟩ := tysP_good HD.out; obtain ⟨hne', hg'⟩ := tysP_good HE.out; have hz := tysP_size HD.out; have hz' := tysP_size HE.out; obtain ⟨R, hR⟩ := sm_ex dd ee; have hin : (ren (tysI dd) == ren (tysI ee)) = R := by
    cases R with
    | true => rw [hR.1 rfl]; simp
    | false =>
     cases hq : (ren (tysI dd) == ren (tysI ee)) with
     | false => rfl
     | true => have := hR.2 (tys_inj hg hne hg' hne' (by simpa using hq)); cases this
   have HPP := hid (fun (wx : World) (ox : Only (fun _ => False) w wx) (G : Nat → Prop) (v : Value) (h : CellAt wx G (.row 4 (dd.map tdC)) v) => ppTs_any dd (fun t ht => goodTd_wellQ (hg t ht)) G wx v h (HT.out.still ox) (by omega)); have HPQ := hid (fun (wx : World) (ox : Only (fun _ => False) w wx) (G : Nat → Prop) (v : Value) (h : CellAt wx G (.row 4 (ee.map tdC)) v) => ppTs_any ee (fun t ht => goodTd_wellQ (hg' t ht)) G wx v h (HT.out.still ox) (by omega)); have HSM := hid (fun (wx : World) (G G' : Nat → Prop) (v u : Value) (h : CellAt wx G (.row 4 (dd.map tdC)) v) (h' : CellAt wx G' (.row 4 (ee.map tdC)) u) => sameTDs_any dd ee R hR G G' wx v u h h'); obtain ⟨q, hq⟩ := eX (ren (tysI dd)); obtain ⟨q', hq'⟩ : ∃ q, ren (tysI ee) = q := ⟨_, rfl⟩; rw [hq, hq'] at hin; rw [hq] at HPP; rw [hq'] at HPQ; have HIN := hid hin; clear hz hz' hq hq' hg hg' hne hne' hR hin HD HE HT; refine HK.out.mono ?_
   rintro e w3 ⟨a3, c3, rfl, hm, o3⟩; have HO3 := hid (HO2.out.trans o3); have hd := CellAt.only o3 (fun _ _ h => h) _ _ HDD.out; have HDD3 := hid hd; have HMM := hid hm; have J := hid (HPP.out w3 HO3.out _ _ hd); clear hd hm o3 HK HDD HO2
   go_wp2_with fail
   refine J.out.mono ?_
   rintro e w4 ⟨rfl, o4⟩; have HO4 := hid (HO3.out.trans o4); have hm := CellAt.only o4 (fun _ _ h => h) _ _ HMM.out; have hd := CellAt.only o4 (fun _ _ h => h) _ _ HDD3.out; have J := hid (HPQ.out w4 HO4.out _ _ hm); have HMM4 := hid hm; have HDD4 := hid hd; clear hm hd o4 HO3 HDD3 HMM
   go_wp2_with fail
   refine J.out.mono ?_
   rintro e w5 ⟨rfl, o5⟩; have HO5 := hid (HO4.out.trans o5); have J := hid (HSM.out w5 _ _ _ _ (CellAt.only o5 (fun _ _ h => h) _ _ HDD4.out) (CellAt.only o5 (fun _ _ h => h) _ _ HMM4.out)); clear o5 HO4 HDD4 HMM4; have z1 := HIN.out
   go_wp2_with fail
   refine J.out.mono ?_
   rintro e w6 ⟨rfl, o6⟩; have HO6 := hid (HO5.out.trans o6); clear o6
   cases R with
   | true =>
    go_wp2_with fail
    go_ret
    exact ⟨rfl, HO6.out.below (Nat.le_refl _) (fun _ _ h => h)⟩
   | false =>
    go_wp2_with fail
    go_ret
    exact ⟨rfl, HO6.out.below (Nat.le_refl _) (fun _ _ h => h)⟩
end Go.Proofs.YtnkpoddbbdmipaaGreatDoor
