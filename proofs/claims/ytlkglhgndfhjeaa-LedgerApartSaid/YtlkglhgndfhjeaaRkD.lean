/- The reference's disk (columbaryref01): Sync. -/
import Derived.Test.YtlkglhgndfhjeaaRkC
namespace Go.Proofs.Ytlkglhgndfhjeaa
open Go Go.RowKit
set_option linter.unusedVariables false
set_option linter.unusedSimpArgs false
set_option maxRecDepth 100000

theorem RkAt.touch {F : Nat → Prop} {w w' : World} {b : Nat} {st : Dk} (h : RkAt w F b st) (ho : Only (fun q => q = b ∨ ∃ m c, w.cell? ⟨b, 0, none⟩ = some (.slice (some ⟨q, 0, none⟩) m c)) w w') : Only F w w' :=
  ho.mono (fun q _ e => by
    obtain ⟨h1, h2, h2a, h2b, vS, vL, h3, h4, h5, h6, h7, h8⟩ := h
    rcases e with rfl | ⟨m, c, e⟩
    · exact h1
    · have e2 : vS = .slice (some ⟨q, 0, none⟩) m c := by simpa [World.cell?, h3] using e
      exact (h6 q (by rw [e2]; rfl)).2)
theorem rkSync (F : Nat → Prop) (b : Nat) (st : Dk) (m : Nat) (w : World) (h : RkAt w F b st) (hf : Fine st m) :
    Calls Try.prog 28 #[.pointer (some ⟨b, 0, none⟩)] w fun e w' => e = .returned (.int .i64 (if st.off then 12 else if (begun st).off then 12 else 0)) ∧ RkAt w' F b (if st.off then st else synced st) ∧ Only F w w' := by
  obtain ⟨aS, aL, cS, cL, c0, c1, c2, c3, c4, fz, _, _⟩ := h.cells
  have hFb := h.1
  have hm := hf.small
  have hbg := rkBegin F b st w h ⟨hf.ops.1, by have := hf.ops.2; omega⟩ hf.armed
  have H := Lib.hid h; have HF := Lib.hid hf; have HBG := Lib.hid hbg; clear h hf hbg
  cases ho : st.off
  · rw [ho] at c4
    simp only [Bool.false_eq_true, if_false]
    cases hb : (begun st).off
    · have hs : synced st = settleD (begun st) (begun st).wait.length := by unfold synced; rw [if_neg (by rw [hb]; decide)]
      have hbg := HBG.out
      rw [hb] at hbg
      have HBG := Lib.hid hbg; clear hbg
      rw [hs]
      simp only [Bool.false_eq_true, if_false]
      go_enter Try.func28, Try.ntmps28
      go_wp2_with fail
      refine HBG.out.mono ?_
      rintro e w1 ⟨rfl, h1, o1⟩
      have o1F : Only F w w1 := o1.mono (fun q _ e => by subst e; exact hFb)
      have hd := rkDone F b (begun st) (begun st).wait.length w1 h1 (Nat.le_refl _) (by rw [begun_wait]; have := HF.out.wait; omega) (by rw [begun_wait, begun_sure]; exact HF.out.ix)
      obtain ⟨aS1, aL1, cS1, cL1, d0, d1, _, _, _, dz, _, _⟩ := h1.cells
      have hwl : ((begun st).wait.length : Int) ≤ 1000000000 := by rw [begun_wait]; have := HF.out.wait; omega
      have HD := Lib.hid hd; have H1 := Lib.hid h1; have O1 := Lib.hid o1F; clear hd h1 o1F o1 hs
      simp only [Bool.false_eq_true, if_false]
      go_wp2_with fail
      refine HD.out.mono ?_
      rintro e w2 ⟨rfl, h2, o2⟩
      have H2 := Lib.hid h2; have O2 := Lib.hid (O1.out.trans' (H1.out.touch o2) (fun _ _ h => h)); clear h2 o2
      go_wp2_with fail
      go_ret
      exact ⟨rfl, H2.out, O2.out⟩
    · have hs : synced st = begun st := by unfold synced; rw [if_pos hb]
      have hbg := HBG.out
      rw [hb] at hbg
      have HBG := Lib.hid hbg; clear hbg
      rw [hs]
      simp only [if_true]
      go_enter Try.func28, Try.ntmps28
      go_wp2_with fail
      refine HBG.out.mono ?_
      rintro e w1 ⟨rfl, h1, o1⟩
      have o1F : Only F w w1 := o1.mono (fun q _ e => by subst e; exact hFb)
      have H1 := Lib.hid h1; have O1 := Lib.hid o1F; clear h1 o1F o1 hs
      simp only [if_true]
      go_wp2_with fail
      go_ret
      exact ⟨rfl, H1.out, O1.out⟩
  · rw [ho] at c4
    simp only [if_true]
    go_enter Try.func28, Try.ntmps28
    go_wp2_with fail
    go_ret
    exact ⟨rfl, H.out, Only.refl _ _⟩
end Go.Proofs.Ytlkglhgndfhjeaa
