/- LexTokens: the walk. -/
import Derived.Test.YtjcigaceacgjaaaDoorSmt
import Derived.Test.YtjcigaceacgjaaaDoorTpl
namespace Go.Proofs.YtjcigaceacgjaaaDoor
open Go Go.RowKit
set_option linter.unusedVariables false
set_option linter.unusedSimpArgs false

theorem up_zero (us : List Tok) : us.map (Tok.up 0) = us := by
  have : Tok.up 0 = id := by funext t; cases t; rfl
  rw [this, List.map_id]
set_option maxRecDepth 100000 in
set_option maxHeartbeats 4000000 in
theorem ltokens_walk (s : ByteArray) (w : World) (hs : s.size ≤ maxLen) : Calls Tryd.prog 3 #[.string s] w fun e w' => e = .returned (.bool true) ∧ Below w.heap.size w w' := by
  have A := Lib.hid (awake05 w)
  have HS := Lib.hid hs; clear hs
  go_enter Tryd.func3, Tryd.ntmps3
  go_wp2_with fail
  refine A.out.mono ?_
  rintro e w1 ⟨rfl, O1⟩
  have HO1 := Lib.hid O1; clear O1 A
  have T := Lib.hid (tokens_any s w1 HS.out)
  cases hP : toks s.data.toList with
  | bad a c =>
    rw [hP] at T
    have HP := Lib.hid hP; clear hP
    go_wp2_with fail
    refine T.out.mono ?_
    rintro e w2 ⟨rfl, O2⟩
    have HO2 := Lib.hid (HO1.out.trans O2); clear O2
    have R := Lib.hid (rtokens_any s w2 HS.out)
    rw [HP.out] at R
    go_wp2_with fail
    refine R.out.mono ?_
    rintro e w3 ⟨rfl, O3⟩
    have HO3 := Lib.hid (HO2.out.trans O3); clear O3
    have S := Lib.hid (same_true (.slice none 0 0) (.slice none 0 0) [] 0 w3 (.inl ⟨rfl, rfl⟩) (.inl ⟨rfl, rfl⟩) (by simp) (by omega))
    clear T R
    go_wp2_with fail
    refine S.out.mono ?_
    rintro e w4 ⟨rfl, O4⟩
    have HO4 := Lib.hid (HO3.out.trans O4); clear O4
    go_wp2_with fail
    go_ret
    exact ⟨rfl, HO4.out.below (Nat.le_refl _) (fun _ _ h => h)⟩
  | ok ts =>
    rw [hP] at T
    obtain ⟨hn, hat⟩ := toks_at hP
    have hle := (toks_ok hP).1
    have HP := Lib.hid hP; have HAT := Lib.hid hat; clear hP hat
    go_wp2_with fail
    refine T.out.mono ?_
    rintro e w2 ⟨v, rfl, how, O2⟩
    have TR := Lib.hid (TRow.of_own how hn)
    have HO2 := Lib.hid (HO1.out.trans O2); clear O2 how T
    have R := Lib.hid (rtokens_any s w2 HS.out)
    rw [HP.out] at R
    go_wp2_with fail
    refine R.out.mono ?_
    rintro e w3 ⟨u, rfl, how, O3⟩
    have UR := Lib.hid (TRow.of_own how hn)
    have TR3 := Lib.hid (TR.out.still O3)
    have HO3 := Lib.hid (HO2.out.trans O3); clear O3 how R TR
    have S := Lib.hid (same_true v u ts 0 w3 (by rw [up_zero]; exact TR3.out) UR.out (fun t ht => by have := HAT.out t ht; omega) (by omega))
    go_wp2_with fail
    refine S.out.mono ?_
    rintro e w4 ⟨rfl, O4⟩
    have HO4 := Lib.hid (HO3.out.trans O4); clear O4
    go_wp2_with fail
    go_ret
    exact ⟨rfl, HO4.out.below (Nat.le_refl _) (fun _ _ h => h)⟩
end Go.Proofs.YtjcigaceacgjaaaDoor
