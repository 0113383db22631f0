/- . -/
import Derived.Test.YtnkpoddbbdmipaaGreatDoorTApPpd
import Derived.Test.YtnkpoddbbdmipaaGreatDoorTApRhx
namespace Go.Proofs.YtnkpoddbbdmipaaGreatDoor
open Go Go.RowKit
open Go.Lib (hid)
set_option linter.unusedVariables false
set_option linter.unusedSimpArgs false
def awkT8 : List UInt8 := [123, 97, 58, 98, 40, 99, 58, 91, 49, 44, 50, 93, 41, 46, 46, 46, 70, 125]
def awkD8 : DC := ⟨[⟨false, [], [], [.mk 1 [97] [98] [] [⟨[99], .mk 5 0 [] [] [.mk 1 1 [] [] [], .mk 1 2 [] [] []]⟩] [] [], .mk 2 [] [70] [] [] [] []]⟩], []⟩
def awkP8 : List UInt8 := [113, 117, 101, 114, 121, 32, 123, 32, 97, 58, 32, 98, 40, 99, 58, 32, 91, 49, 44, 32, 50, 93, 41, 32, 46, 46, 46, 70, 32, 125]
set_option maxRecDepth 100000 in
theorem awk8_doc : docP awkT8 = .ok awkD8 := by kernel_rfl
set_option maxRecDepth 100000 in
theorem awk8_text : ren (docI awkD8) = awkP8 := by kernel_rfl
set_option maxRecDepth 100000 in
set_option maxHeartbeats 4000000 in
theorem awake08 (w : World) (ht : Tab w) : Calls Tryz.prog 11 #[] w fun e w' => e = .returned (.bool true) ∧ Only (fun _ => False) w w' := by
 have T := hid (fdocument_any ⟨awkT8.toArray⟩ w (by unfold maxLen; decide)); rw [show (⟨awkT8.toArray⟩ : ByteArray).data.toList = awkT8 from rfl, awk8_doc] at T; have HT := hid ht; clear ht
 go_enter Tryz.func11, Tryz.ntmps11
 go_wp2_with fail
 refine T.out.mono ?_
 rintro e w1 ⟨a1, c1, a2, c2, rfl, hd, ho⟩; have hld : awkD8.ops.length = 1 := rfl; have hlf : awkD8.frags.length = 0 := rfl; rw [hld, hlf] at *; obtain ⟨wA, hwA⟩ := eX (w1.alloc (.cells #[.slice a1 1 c1, .slice a2 0 c2] 26)); have oa : Only (fun _ => False) w1 wA := by rw [← hwA]; exact (Only.refl _ w1).alloc _
 have hbx := heap_new w1 (.cells #[.slice a1 1 c1, .slice a2 0 c2] 26); rw [hwA] at hbx; have J := hid (ppD_any awkD8 (docP_good awk8_doc).1 _ wA _ _ (CellsAt.only oa (fun _ _ h => h) _ _ hd) (HT.out.still (ho.trans oa)) (by rw [awk8_text]; decide)); rw [awk8_text] at J; obtain ⟨B, hB⟩ := eX (w1.heap.size); rw [hB] at hbx; obtain ⟨q0, q1, -⟩ := boxN2 hbx; have HO := hid (ho.trans oa); have HWA := hid hwA; have HB := hid hB; clear hd ho T hld hlf oa hwA hB hbx
 go_upto_region 2 with (fail)
 rw [HB.out, HWA.out]
 go_wp2_with fail
 refine J.out.mono ?_
 rintro e w2 ⟨rfl, o2⟩; have HO2 := hid (HO.out.trans o2); clear o2 q0 q1
 go_wp2_with fail
 go_ret
 exact ⟨by rfl, HO2.out⟩
end Go.Proofs.YtnkpoddbbdmipaaGreatDoor
