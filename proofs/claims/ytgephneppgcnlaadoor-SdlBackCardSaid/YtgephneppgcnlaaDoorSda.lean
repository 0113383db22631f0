/- The law's example (columbarylaw07.awake). -/
import Derived.Test.YtgephneppgcnlaaDoorSdY
import Derived.Test.YtgephneppgcnlaaDoorSdf
import Derived.Deep.QuietTactic
import Derived.BigQuiet
namespace Go.Proofs.YtgephneppgcnlaaDoor
open Go Go.RowKit
set_option linter.unusedVariables false
set_option linter.unusedSimpArgs false

/-- type A { b(c: Int = 3): [B!]! } -/
def awk7T : List UInt8 := [116, 121, 112, 101, 32, 65, 32, 123, 32, 98, 40, 99, 58, 32, 73, 110, 116, 32, 61, 32, 51, 41, 58, 32, 91, 66, 33, 93, 33, 32, 125]
def awk7I : IN := ⟨[99], .nm [73, 110, 116] false, true, .mk 1 3 [] [] []⟩
def awk7F : FD := ⟨[98], [awk7I], .ls (.nm [66] true) true, false, VT.zero⟩
def awk7D : TD := ⟨1, [65], [awk7F], []⟩
theorem awk7_doc : tysP awk7T = .ok [awk7D] := by rfl
set_option maxRecDepth 100000 in
set_option maxHeartbeats 4000000 in
theorem awake07 (w : World) : Calls Tryd.prog 19 #[] w fun e w' => e = .returned (.bool true) ∧ Only (fun _ => False) w w' := by
  have T := Lib.hid (stypes_any awk7T w (by unfold maxLen; decide))
  rw [awk7_doc] at T
  go_enter Tryd.func19, Tryd.ntmps19
  go_wp2_with fail
  refine T.out.mono ?_
  rintro e w1 ⟨a, c, rfl, hd, ho⟩
  simp only [List.length_singleton] at hd ⊢
  obtain ⟨b1, f1, d1, vs, e, hm1, hm2, -, hr1, hc1⟩ := row_at hd 0 (by decide)
  injection e with e1 e2 e3; subst e1; subst e3; clear e2
  have hc1 : CellsAt _ _ (tdC awk7D) vs := hc1
  obtain ⟨fv, nv, rfl, hf, -⟩ := td_cells hc1
  obtain ⟨b2, f2, c3, us, rfl, hm3, hm4, -, hr2, hc2⟩ := row_at hf 0 (by decide)
  have hc2 : CellsAt _ _ (fdC awk7F) us := hc2
  obtain ⟨gv, ts, us, rfl, hg, ht, -⟩ := fd_cells hc2
  obtain ⟨b3, f3, c4, xs, rfl, hm5, hm6, -, hr3, hc3⟩ := row_at hg 0 (by decide)
  have hc3 : CellsAt _ _ (inC awk7I) xs := hc3
  obtain ⟨gv2, ts2, us2, rfl, -, ht2, hv2⟩ := in_cells hc3
  obtain ⟨tv, rfl, hof⟩ := tr_ls_cells ht
  obtain ⟨s2, a2, l2, c2', bb2, rfl⟩ := trC_form2 ht2
  obtain ⟨kv, lv, rfl, -, -⟩ := val_cells hv2
  obtain ⟨b4, f4, c5, ys, rfl, hm7, hm8, -, hr4, hc4⟩ := row_at hof 0 (by decide)
  have hc4 : CellsAt _ _ (trC (.nm [66] true)) ys := hc4
  have p1 : w1.cell? ⟨b1, f1, none⟩ = some (.int .u8 1) := by have := hr1 0 _ rfl; simpa [awk7D, awk7F, awk7I] using this
  have p2 : w1.cell? ⟨b1, f1 + 2, none⟩ = some (.slice (some ⟨b2, f2, none⟩) 1 c3) := by have := hr1 2 _ rfl; simpa [awk7D, awk7F, awk7I] using this
  have p3 : w1.cell? ⟨b2, f2 + 1, none⟩ = some (.slice (some ⟨b3, f3, none⟩) 1 c4) := by have := hr2 1 _ rfl; simpa [awk7D, awk7F, awk7I] using this
  have p4 : w1.cell? ⟨b2, f2 + 3, none⟩ = some (.slice (some ⟨b4, f4, none⟩) 1 c5) := by have := hr2 3 _ rfl; simpa [awk7D, awk7F, awk7I] using this
  have p5 : w1.cell? ⟨b2, f2 + 4, none⟩ = some (.bool true) := by have := hr2 4 _ rfl; simpa [awk7D, awk7F, awk7I] using this
  have p6 : w1.cell? ⟨b3, f3 + 7, none⟩ = some (.int .i64 3) := by have := hr3 7 _ rfl; simpa [awk7D, awk7F, awk7I] using this
  have p7 : w1.cell? ⟨b4, f4, none⟩ = some (.string ⟨#[66]⟩) := by
    rcases tr_cells hc4 with rfl | ⟨_, _, rfl⟩ <;> (have := hr4 0 _ rfl; simpa [awk7D, awk7F, awk7I] using this)
  have HO := Lib.hid ho
  have p4' : w1.cell? ⟨b2, f2 + 2 + 1, none⟩ = some (.slice (some ⟨b4, f4, none⟩) 1 c5) := p4
  have p5' : w1.cell? ⟨b2, f2 + 2 + 2, none⟩ = some (.bool true) := p5
  have p6' : w1.cell? ⟨b3, f3 + 6 + 1, none⟩ = some (.int .i64 3) := p6
  have hm1 : 1 ≤ c := hm1
  have hm3 : 1 ≤ c3 := hm3
  have hm5 : 1 ≤ c4 := hm5
  have hm7 : 1 ≤ c5 := hm7
  clear hd ho T hc1 hc2 hc3 hc4 hf hg ht ht2 hv2 hof hr1 hr2 hr3 hr4
  go_wp2_with fail
  clear p1 p2 p3 p4 p5 p6 p7 p4' p5' p6'
  go_ret
  exact ⟨rfl, HO.out⟩
end Go.Proofs.YtgephneppgcnlaaDoor
