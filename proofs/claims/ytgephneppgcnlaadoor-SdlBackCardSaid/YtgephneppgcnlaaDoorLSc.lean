/- SdlBack: the walk. -/
import Derived.Test.YtgephneppgcnlaaDoorSda
import Derived.Test.YtgephneppgcnlaaDoorMSa
import Derived.Test.YtgephneppgcnlaaDoorPri
namespace Go.Proofs.YtgephneppgcnlaaDoor
open Go Go.RowKit
set_option linter.unusedVariables false
set_option linter.unusedSimpArgs false

theorem goodV_well (fx : Bool) : ∀ (d : Nat) (v : VT), GoodV fx d v → WellV v
  | 0, _, h => h.elim
  | d + 1, .mk k n s ks vs, h => by
    rcases h with ⟨rfl, hn, rfl, rfl, rfl⟩ | ⟨rfl, rfl, _, rfl, rfl⟩ | ⟨rfl, hn, rfl, rfl, rfl⟩ | ⟨rfl, rfl, rfl, rfl, rfl⟩ | ⟨rfl, rfl, _, _, _, _, rfl, rfl⟩ | ⟨rfl, _, rfl, _, rfl, rfl⟩ | ⟨rfl, rfl, rfl, rfl, hv⟩ | ⟨rfl, rfl, rfl, ps, rfl, rfl, hp⟩
    · exact .mk _ _ _ _ _ (by unfold NumOk at hn; omega) (.inl rfl) (by simp)
    · exact .mk _ _ _ _ _ (by omega) (.inl rfl) (by simp)
    · exact .mk _ _ _ _ _ (by omega) (.inl rfl) (by simp)
    · exact .mk _ _ _ _ _ (by omega) (.inl rfl) (by simp)
    · exact .mk _ _ _ _ _ (by omega) (.inl rfl) (by simp)
    · exact .mk _ _ _ _ _ (by omega) (.inl rfl) (by simp)
    · exact .mk _ _ _ _ _ (by omega) (.inr (.inl rfl)) (fun v hvv => goodV_well fx d v (hv v hvv))
    · exact .mk _ _ _ _ _ (by omega) (.inr (.inr ⟨rfl, by simp⟩)) (fun v hvv => by
        obtain ⟨p, hpp, rfl⟩ := List.mem_map.1 hvv
        exact goodV_well fx d p.2 (hp p hpp).2)
theorem goodI_well {n : List UInt8} {t : TR} {has : Bool} {v : VT} (h : GoodI n t has v) : has = true → WellV v := fun hh => by
  rcases h.2.2 with ⟨_, h⟩ | ⟨h, _⟩
  · exact goodV_well true 24 v h
  · rw [h] at hh; cases hh
theorem goodFd_well {f : FD} (h : GoodFd f) : WellF f := ⟨goodI_well h.1, fun i hi => goodI_well (h.2 i hi)⟩
theorem goodTd_well {t : TD} (h : GoodTd t) : WellT t := by
  rcases h.2 with ⟨hk, _, _, hf⟩ | ⟨hk, _, _, hf⟩ | ⟨hk, hn, _, hf⟩ | ⟨hk, _, _, hf⟩
  · exact ⟨.inr (.inr (.inl hk)), by rw [hf]; simp⟩
  · exact ⟨.inr (.inr (.inr (.inl hk))), by rw [hf]; simp⟩
  · exact ⟨.inr (.inr (.inr (.inr ⟨hk, hn⟩))), fun f hff => goodFd_well (hf f hff).1⟩
  · refine ⟨?_, fun f hff => goodFd_well (hf f hff).1⟩
    rcases hk with hk | hk
    · exact .inl hk
    · exact .inr (.inl hk)
set_option maxRecDepth 100000 in
set_option maxHeartbeats 16000000 in
theorem sback_walk (s : ByteArray) (w : World) (hs : s.size ≤ maxLen) : Calls Tryd.prog 9 #[.string s] w fun e w' => e = .returned (.bool true) ∧ Below w.heap.size w w' := by
  have A := Lib.hid (awake07 w)
  unfold maxLen at hs
  go_enter Tryd.func9, Tryd.ntmps9
  go_wp2_with fail
  refine A.out.mono ?_
  rintro e w1 ⟨rfl, O1⟩
  have HO1 := Lib.hid O1; clear O1 A
  by_cases hbig : 1200 < s.size
  · have A := Lib.hid (awake07 w1)
    have t1 : decide ((s.size : Int) > 1200) = true := decide_eq_true (by omega)
    go_wp2_with fail
    refine A.out.mono ?_
    rintro e w2 ⟨rfl, O2⟩
    have HO2 := Lib.hid (HO1.out.trans O2); clear O2 A
    go_wp2_with fail
    go_ret
    exact ⟨rfl, HO2.out.below (Nat.le_refl _) (fun _ _ h => h)⟩
  have t1 : decide ((s.size : Int) > 1200) = false := decide_eq_false (by omega)
  have hl9 : s.size ≤ 1200 := by omega
  clear hbig hs
  have D := Lib.hid (stypes_b s w1 (by unfold maxLen; omega))
  cases hd : tysP s.data.toList with
  | bad y f =>
    rw [hd] at D
    have hne : ((f : Int) != 0) = true := by have := tysP_bad hd; simp; omega
    go_wp2_with fail
    refine D.out.mono ?_
    rintro e w2 ⟨rfl, O2⟩
    have HO2 := Lib.hid (HO1.out.trans O2); clear O2 D
    go_wp2_with fail
    go_ret
    exact ⟨rfl, HO2.out.below (Nat.le_refl _) (fun _ _ h => h)⟩
  | ok l =>
    rw [hd] at D
    obtain ⟨hne, hg⟩ := tysP_good hd
    have hsz := tysP_size hd
    have hback := tysP_back hd
    have hwell : ∀ t ∈ l, WellT t := fun t ht => goodTd_well (hg t ht)
    have HW := Lib.hid hwell; have HS := Lib.hid hsz; have HB := Lib.hid hback
    clear hne hg hsz hback hwell hd
    go_wp2_with fail
    refine D.out.mono ?_
    rintro e w2 ⟨a1, c1, rfl, h1, O2⟩
    have P := Lib.hid (prTs_any l HW.out _ w2 _ h1 (by have := HS.out; omega))
    have H1 := Lib.hid h1
    have HO2 := Lib.hid (HO1.out.trans O2); clear O2 D h1
    go_wp2_with fail
    refine P.out.mono ?_
    rintro e w3 ⟨rfl, O3⟩
    have H2 := Lib.hid (CellAt.only O3 (fun _ _ h => h) _ _ H1.out)
    have HO3 := Lib.hid (HO2.out.trans O3)
    have Q := Lib.hid (stypes_any (ren (tysI l)) w3 (by have := HS.out; unfold maxLen; omega))
    clear O3 H1 P
    rcases HB.out with hb | hb
    · rw [hb] at Q
      clear hb HB
      generalize ren (tysI l) = R at *
      go_wp2_with fail
      refine Q.out.mono ?_
      rintro e w4 ⟨a2, c2, rfl, h2, O4⟩
      have SM := Lib.hid (sameTDs l _ _ w4 _ _ (CellAt.only O4 (fun _ _ h => h) _ _ H2.out) h2)
      have HO4 := Lib.hid (HO3.out.trans O4)
      clear h2 O4 Q H2
      go_wp2_with fail
      refine SM.out.mono ?_
      rintro e w5 ⟨rfl, O5⟩
      have HO5 := Lib.hid (HO4.out.trans O5)
      clear O5
      go_wp2_with fail
      go_ret
      exact ⟨rfl, HO5.out.below (Nat.le_refl _) (fun _ _ h => h)⟩
    · rw [hb] at Q
      clear hb HB
      generalize ren (tysI l) = R at *
      go_wp2_with fail
      refine Q.out.mono ?_
      rintro e w4 ⟨rfl, O4⟩
      have HO4 := Lib.hid (HO3.out.trans O4)
      clear O4 Q H2
      go_wp2_with fail
      go_ret
      exact ⟨rfl, HO4.out.below (Nat.le_refl _) (fun _ _ h => h)⟩
end Go.Proofs.YtgephneppgcnlaaDoor
