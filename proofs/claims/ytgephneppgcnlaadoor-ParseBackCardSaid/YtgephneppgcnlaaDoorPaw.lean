/- Documents, in plain Lean: the law's example; things within one another; words as names. The law's example (columbarylaw06.awake). -/
import Derived.Test.YtgephneppgcnlaaDoorPrA
import Derived.Lib.Hide
import Derived.Test.YtgephneppgcnlaaDoorPdo
import Derived.Test.YtgephneppgcnlaaDoorEnD
import Derived.Deep.QuietTactic
import Derived.BigQuiet
namespace Go.Proofs.YtgephneppgcnlaaDoor
set_option linter.unusedVariables false
set_option linter.unusedSimpArgs false

/-- {a:b(c:[1])...F} -/
def awkT : List UInt8 := [123, 97, 58, 98, 40, 99, 58, 91, 49, 93, 41, 46, 46, 46, 70, 125]
def awkD : DC := ⟨[⟨false, [], [], [.mk 1 [97] [98] [] [⟨[99], .mk 5 0 [] [] [.mk 1 1 [] [] []]⟩] [] [], .mk 2 [] [70] [] [] [] []]⟩], []⟩
theorem awk_doc : docP awkT = .ok awkD := by rfl
end Go.Proofs.YtgephneppgcnlaaDoor
namespace Go.Proofs.YtgephneppgcnlaaDoor
open Go Go.RowKit
set_option linter.unusedVariables false
set_option linter.unusedSimpArgs false

/-- A document that was stored in a box of its own. -/
theorem doc_box {w : World} {G : Nat → Prop} {d : DC} {x y : Value} (h : CellsAt w G (docC d) [x, y]) : CellAt w G (.row 4 (d.ops.map opC)) x ∧ CellAt w G (.row 3 (d.frags.map frC)) y := by
  obtain ⟨v1, us, e, h1, h⟩ := cells_cons h
  injection e with e1 e2; subst e1; subst e2
  obtain ⟨v2, us, e, h2, h⟩ := cells_cons h
  injection e with e1 e2; subst e1
  exact ⟨h1, h2⟩
set_option maxRecDepth 100000 in
set_option maxHeartbeats 4000000 in
theorem awake06 (w : World) : Calls Tryd.prog 13 #[] w fun e w' => e = .returned (.bool true) ∧ Only (fun _ => False) w w' := by
  have T := Lib.hid (document_any awkT w (by unfold maxLen; decide))
  rw [awk_doc] at T
  go_enter Tryd.func13, Tryd.ntmps13
  go_wp2_with fail
  refine T.out.mono ?_
  rintro e w1 ⟨a1, c1, a2, c2, rfl, hd, ho⟩
  obtain ⟨hx, hy⟩ := doc_box hd
  have hld : awkD.ops.length = 1 := rfl
  have hlf : awkD.frags.length = 0 := rfl
  rw [hld, hlf] at *
  obtain ⟨wA, hwA⟩ : ∃ wA, w1.alloc (.cells #[.slice a1 1 c1, .slice a2 0 c2] 26) = wA := ⟨_, rfl⟩
  have oa : Only (fun _ => False) w1 wA := by rw [← hwA]; exact (Only.refl _ w1).alloc _
  have hbx := heap_new w1 (.cells #[.slice a1 1 c1, .slice a2 0 c2] 26)
  rw [hwA] at hbx
  have hxa := CellAt.only oa (fun _ _ h => h) _ _ hx
  obtain ⟨b1, f1, d1, vs, e, hm1, hm2, -, hr1, hc1⟩ := row_at hxa 0 (by decide)
  injection e with e1 e2 e3; subst e1; subst e3; clear e2
  have hc1 : CellsAt _ _ (opC ⟨false, [], [], [.mk 1 [97] [98] [] [⟨[99], .mk 5 0 [] [] [.mk 1 1 [] [] []]⟩] [] [], .mk 2 [] [70] [] [] [] []]⟩) vs := hc1
  obtain ⟨vv, sv, rfl, -, hsv⟩ := op_cells hc1
  obtain ⟨b2, f2, c3, us, rfl, hm3, hm4, -, hr2, hc2⟩ := row_at hsv 0 (by decide)
  obtain ⟨b2', f2', c3', us', e, -, -, -, hr3, hc3⟩ := row_at hsv 1 (by decide)
  injection e with e1 e2 e3; injection e1 with e1; injection e1 with e1 e4 _; subst e1; subst e3; subst e4; clear e2
  have hc2 : CellsAt _ _ (selC (.mk 1 [97] [98] [] [⟨[99], .mk 5 0 [] [] [.mk 1 1 [] [] []]⟩] [] [])) us := hc2
  have hc3 : CellsAt _ _ (selC (.mk 2 [] [70] [] [] [] [])) us' := hc3
  obtain ⟨_, _, _, rfl, -, -, -⟩ := sel_cells hc2
  obtain ⟨_, _, _, rfl, -, -, -⟩ := sel_cells hc3
  have p1 : wA.cell? ⟨b1, f1 + 3, none⟩ = some (.slice (some ⟨b2, f2, none⟩) 2 c3) := by have := hr1 3 _ rfl; simpa using this
  have p2 : wA.cell? ⟨b2, f2 + 1, none⟩ = some (.string ⟨#[97]⟩) := by have := hr2 1 _ rfl; simpa using this
  have p3 : wA.cell? ⟨b2, f2 + 2, none⟩ = some (.string ⟨#[98]⟩) := by have := hr2 2 _ rfl; simpa using this
  have p4 : wA.cell? ⟨b2, f2 + 7, none⟩ = some (.int .u8 2) := by have := hr3 0 _ rfl; simpa using this
  have l1 : (List.map opC awkD.ops).length = 1 := rfl
  have hm3 : 2 ≤ c3 := hm3
  rw [l1] at hm1
  obtain ⟨q0, q1, -⟩ := boxN2 hbx
  obtain ⟨B, hB⟩ : ∃ B, w1.heap.size = B := ⟨_, rfl⟩
  rw [hB] at q0 q1
  have HO := Lib.hid (ho.trans oa); have HWA := Lib.hid hwA; have HB := Lib.hid hB
  clear hd hx hy ho T hld hlf hxa hc1 hc2 hc3 hsv hr1 hr2 hr3 l1 oa hwA hB hbx
  go_upto_region 2 with (fail)
  rw [HWA.out, HB.out]
  go_wp2_with fail
  clear q0 q1 p1 p2 p3 p4
  go_ret
  exact ⟨rfl, HO.out⟩
end Go.Proofs.YtgephneppgcnlaaDoor
