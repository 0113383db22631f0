/- ParseBack: the walk. -/
import Derived.Test.YtgephneppgcnlaaDoorSdP
import Derived.Test.YtgephneppgcnlaaDoorCnd
import Derived.Test.YtgephneppgcnlaaDoorPrz
namespace Go.Proofs.YtgephneppgcnlaaDoor
open Go Go.RowKit
set_option linter.unusedVariables false
set_option linter.unusedSimpArgs false

set_option maxRecDepth 100000 in
set_option maxHeartbeats 16000000 in
theorem pback_walk (s : ByteArray) (w : World) (hs : s.size ≤ maxLen) : Calls Tryd.prog 3 #[.string s] w fun e w' => e = .returned (.bool true) ∧ Below w.heap.size w w' := by
  have A := Lib.hid (awake06 w)
  unfold maxLen at hs
  go_enter Tryd.func3, Tryd.ntmps3
  go_wp2_with fail
  refine A.out.mono ?_
  rintro e w1 ⟨rfl, O1⟩
  have HO1 := Lib.hid O1; clear O1 A
  by_cases hbig : 900 < s.size
  · have A := Lib.hid (awake06 w1)
    have t1 : decide ((s.size : Int) > 900) = true := decide_eq_true (by omega)
    go_wp2_with fail
    refine A.out.mono ?_
    rintro e w2 ⟨rfl, O2⟩
    have HO2 := Lib.hid (HO1.out.trans O2); clear O2 A
    go_wp2_with fail
    go_ret
    exact ⟨rfl, HO2.out.below (Nat.le_refl _) (fun _ _ h => h)⟩
  have t1 : decide ((s.size : Int) > 900) = false := decide_eq_false (by omega)
  have hl9 : s.size ≤ 900 := by omega
  clear hbig hs
  have D := Lib.hid (document_b s w1 (by unfold maxLen; omega))
  cases hd : docP s.data.toList with
  | bad y f =>
    rw [hd] at D
    have hne : ((f : Int) != 0) = true := by have := docP_bad hd; simp; omega
    go_wp2_with fail
    refine D.out.mono ?_
    rintro e w2 ⟨rfl, O2⟩
    have HO2 := Lib.hid ((HO1.out.trans O2).alloc (.cells #[.slice none 0 0, .slice none 0 0] 26)); clear O2 D
    go_wp2_with fail
    go_ret
    exact ⟨rfl, HO2.out.below (Nat.le_refl _) (fun _ _ h => h)⟩
  | ok d =>
    rw [hd] at D
    have HG := Lib.hid (docP_good hd).1
    have HS := Lib.hid (docP_size hd)
    have HB := Lib.hid (docP_back hd)
    clear hd
    go_wp2_with fail
    refine D.out.mono ?_
    rintro e w2 ⟨a1, c1, a2, c2, rfl, h1, O2⟩
    obtain ⟨n1, hx1⟩ : ∃ x, d.ops.length = x := ⟨_, rfl⟩
    obtain ⟨n2, hx2⟩ : ∃ x, d.frags.length = x := ⟨_, rfl⟩
    rw [hx1, hx2] at h1 ⊢
    obtain ⟨w3, hw3⟩ : ∃ x, w2.alloc (.cells #[.slice a1 n1 c1, .slice a2 n2 c2] 26) = x := ⟨_, rfl⟩
    obtain ⟨b1, hb1⟩ : ∃ x, w2.heap.size = x := ⟨_, rfl⟩
    have o3 : Only (fun _ => False) w2 w3 := by rw [← hw3]; exact (Only.refl _ w2).alloc _
    have hB1 := heap_new w2 (.cells #[.slice a1 n1 c1, .slice a2 n2 c2] 26)
    rw [hw3, hb1] at hB1
    have HB1 := Lib.hid hB1
    have H1 := Lib.hid (CellsAt.only o3 (fun _ _ h => h) _ _ h1)
    have HO3 := Lib.hid ((HO1.out.trans O2).trans o3)
    have HW3 := Lib.hid hw3; have Hb1 := Lib.hid hb1; have HX := Lib.hid (And.intro hx1 hx2)
    clear O2 D h1 hw3 hb1 o3 hB1 hx1 hx2
    go_upto_region 6 with (fail)
    rw [HW3.out, Hb1.out]
    obtain ⟨y0, y1, -⟩ := boxN2 HB1.out
    have P := Lib.hid (prD_any d HG.out _ w3 (.slice a1 n1 c1) (.slice a2 n2 c2) H1.out (by have := HS.out; omega))
    go_wp2_with fail
    refine P.out.mono ?_
    rintro e w4 ⟨rfl, O4⟩
    have H2 := Lib.hid (CellsAt.only O4 (fun _ _ h => h) _ _ H1.out)
    have HB2 := Lib.hid ((O4.block b1 (Array.getElem?_eq_some_iff.1 HB1.out).1 (fun h => h)).trans HB1.out)
    have HO4 := Lib.hid (HO3.out.trans O4)
    have Q := Lib.hid (document_any (ren (docI d)) w4 (by have := HS.out; unfold maxLen; omega))
    clear O4 H1 P y0 y1 HB1
    rcases HB.out with hb | hb
    · rw [hb] at Q
      clear hb HB
      generalize ren (docI d) = R at *
      go_wp2_with fail
      refine Q.out.mono ?_
      rintro e w5 ⟨p1, k1, p2, k2, rfl, h2, O5⟩
      obtain ⟨j1, hz1⟩ : ∃ x, d.ops.length = x := ⟨_, rfl⟩
      obtain ⟨j2, hz2⟩ : ∃ x, d.frags.length = x := ⟨_, rfl⟩
      rw [hz1, hz2] at h2 ⊢
      obtain ⟨w6, hw6⟩ : ∃ x, w5.alloc (.cells #[.slice p1 j1 k1, .slice p2 j2 k2] 26) = x := ⟨_, rfl⟩
      obtain ⟨b2, hb2⟩ : ∃ x, w5.heap.size = x := ⟨_, rfl⟩
      have o6 : Only (fun _ => False) w5 w6 := by rw [← hw6]; exact (Only.refl _ w5).alloc _
      have hB3 := heap_new w5 (.cells #[.slice p1 j1 k1, .slice p2 j2 k2] 26)
      rw [hw6, hb2] at hB3
      have HB3 := Lib.hid hB3
      have o46 := O5.trans o6
      have HB4 := Lib.hid ((o46.block b1 (Array.getElem?_eq_some_iff.1 HB2.out).1 (fun h => h)).trans HB2.out)
      have SM := Lib.hid (sameD_true d _ _ w6 _ _ _ _ (CellsAt.only o46 (fun _ _ h => h) _ _ H2.out) (CellsAt.only o6 (fun _ _ h => h) _ _ h2))
      have HO6 := Lib.hid (HO4.out.trans o46)
      have HW6 := Lib.hid hw6; have Hb2 := Lib.hid hb2; have HZ := Lib.hid (And.intro hz1 hz2)
      clear h2 O5 Q H2 hw6 hb2 o6 o46 hB3 hz1 hz2
      go_upto_region 7 with (fail)
      rw [HW6.out, Hb2.out]
      obtain ⟨y0, y1, -⟩ := boxN2 HB4.out
      obtain ⟨u0, u1, -⟩ := boxN2 HB3.out
      go_wp2_with fail
      refine SM.out.mono ?_
      rintro e w7 ⟨rfl, O7⟩
      have HO7 := Lib.hid (HO6.out.trans O7)
      clear O7
      go_wp2_with fail
      go_ret
      exact ⟨rfl, HO7.out.below (Nat.le_refl _) (fun _ _ h => h)⟩
    · rw [hb] at Q
      clear hb HB
      generalize ren (docI d) = R at *
      go_wp2_with fail
      refine Q.out.mono ?_
      rintro e w5 ⟨rfl, O5⟩
      have HO5 := Lib.hid ((HO4.out.trans O5).alloc (.cells #[.slice none 0 0, .slice none 0 0] 26))
      clear O5 Q H2
      go_wp2_with fail
      go_ret
      exact ⟨rfl, HO5.out.below (Nat.le_refl _) (fun _ _ h => h)⟩
end Go.Proofs.YtgephneppgcnlaaDoor
