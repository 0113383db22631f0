/- SdlSigns: the walk. -/
import Derived.Test.YtgephneppgcnlaaDoorSda
import Derived.Test.YtgephneppgcnlaaDoorSgp
import Derived.Test.YtgephneppgcnlaaDoorRwc
import Derived.Test.YtgephneppgcnlaaDoorSmf
import Derived.Laws.IdiomStrings
namespace Go.Proofs.YtgephneppgcnlaaDoor
open Go Go.RowKit
set_option linter.unusedVariables false
set_option linter.unusedSimpArgs false

theorem sign_text1 (a b : List UInt8) : (⟨#[117, 110, 105, 111, 110, 32, 85, 32, 61, 32]⟩ : ByteArray) ++ ⟨a.toArray⟩ ++ ⟨#[32, 116, 121, 112, 101, 32, 86, 32, 105, 109, 112, 108, 101, 109, 101, 110, 116, 115, 32]⟩ ++ ⟨b.toArray⟩ ++ ⟨#[32, 123, 32, 102, 58, 32, 73, 110, 116, 32, 125]⟩ = ⟨(sgA1 ++ a ++ sgB1 ++ b ++ sgE).toArray⟩ := by
  show (⟨sgA1.toArray⟩ : ByteArray) ++ ⟨a.toArray⟩ ++ ⟨sgB1.toArray⟩ ++ ⟨b.toArray⟩ ++ ⟨sgE.toArray⟩ = _
  rw [cat_list, cat_list, cat_list, cat_list]
theorem sign_text2 (a b : List UInt8) : (⟨#[117, 110, 105, 111, 110, 32, 85, 32, 61, 32, 124, 32]⟩ : ByteArray) ++ ⟨a.toArray⟩ ++ ⟨#[32, 116, 121, 112, 101, 32, 86, 32, 105, 109, 112, 108, 101, 109, 101, 110, 116, 115, 32, 38, 32]⟩ ++ ⟨b.toArray⟩ ++ ⟨#[32, 123, 32, 102, 58, 32, 73, 110, 116, 32, 125]⟩ = ⟨(sgA2 ++ a ++ sgB2 ++ b ++ sgE).toArray⟩ := by
  show (⟨sgA2.toArray⟩ : ByteArray) ++ ⟨a.toArray⟩ ++ ⟨sgB2.toArray⟩ ++ ⟨b.toArray⟩ ++ ⟨sgE.toArray⟩ = _
  rw [cat_list, cat_list, cat_list, cat_list]
set_option maxRecDepth 100000 in
set_option maxHeartbeats 8000000 in
theorem signs_walk (n : Int) (w : World) (hw : (Lit.int .u8 n).wf = true) : Calls Tryd.prog 11 #[.int .u8 n] w fun e w' => e = .returned (.bool true) ∧ Below w.heap.size w w' := by
  have A := Lib.hid (awake07 w)
  have h0 : 0 ≤ n ∧ n ≤ 255 := by simp [Lit.wf, IntKind.min, IntKind.max, IntKind.signed, IntKind.bits] at hw; omega
  obtain ⟨h0, h1⟩ := h0
  obtain ⟨k, hk1, hk2, hke⟩ : ∃ k : Nat, 1 ≤ k ∧ k ≤ 20 ∧ 1 + n % 20 = (k : Int) := ⟨(1 + n % 20).toNat, by omega, by omega, by omega⟩
  have HKE := Lib.hid hke
  clear hw hke
  go_enter Tryd.func11, Tryd.ntmps11
  go_wp2_with fail
  refine A.out.mono ?_
  rintro e w1 ⟨rfl, O1⟩
  have HO1 := Lib.hid O1; clear O1 A
  go_wp2_with fail
  rw [HKE.out]
  go_loopw [4, 5, 6, 7] (fun s t x y wr => ∃ j : Nat, x = .int .i64 (j : Int) ∧ j ≤ k ∧ s = .string ⟨(joinT 124 j).toArray⟩ ∧ t = .string ⟨(joinT 38 j).toArray⟩ ∧ Hid (Only (fun _ => False) w wr)) (fun _ _ x _ _ => k - (intOf x).toNat)
  case atStart => exact ⟨0, rfl, by omega, rfl, rfl, HO1⟩
  case round =>
    obtain ⟨j, rfl, hj, rfl, rfl, OR⟩ := hrel
    have hl1 := joinT_len 124 j
    have hl2 := joinT_len 38 j
    by_cases hlt : j < k
    · have t1 : decide ((j : Int) < (k : Int)) = true := decide_eq_true (by omega)
      have hj0 : (0 : Int) ≤ (j : Int) := by omega
      have hj20 : (j : Int) < 20 := by omega
      obtain ⟨c, hc⟩ : ∃ c, UInt8.ofNat (97 + j) = c := ⟨_, rfl⟩
      have hcv : (c.toNat : Int) = 97 + (j : Int) := by rw [← hc, UInt8.toNat_ofNat', Nat.mod_eq_of_lt (by omega)]; omega
      have hs1 : joinT 124 (j + 1) = joinT 124 j ++ (if 0 < j then [32, 124, 32] else []) ++ [84, c] := by rw [joinT, hc]
      have hs2 : joinT 38 (j + 1) = joinT 38 j ++ (if 0 < j then [32, 38, 32] else []) ++ [84, c] := by rw [joinT, hc]
      have HS1 := Lib.hid hs1; have HS2 := Lib.hid hs2
      generalize joinT 124 j = aj at *
      generalize joinT 38 j = bj at *
      obtain ⟨gb, hgb⟩ : ∃ gb, wr.heap.size = gb := ⟨_, rfl⟩
      have hbx := heap_new wr (.cells #[.int .u8 (97 + (j : Int))] 5)
      rw [hgb] at hbx
      have cA : (convert 55 9 (.slice (some ⟨gb, 0, none⟩) 1 1)).run Tryd.prog (wr.alloc (.cells #[.int .u8 (97 + (j : Int))] 5)) = .ok (.string ⟨#[c]⟩) (wr.alloc (.cells #[.int .u8 (97 + (j : Int))] 5)) := by
        refine run_convert_bytes_back _ _ _ 5 _ 1 [c] (by kernel_rfl) (by kernel_rfl) (by kernel_rfl) (fun j hj => ?_)
        rw [addr_add]
        match j, hj with
        | 0, _ => simp [World.cell?, hbx]; exact hcv.symm
      rw [← hgb] at cA
      have HA := Lib.hid (OR.out.alloc (.cells #[.int .u8 (97 + (j : Int))] 5))
      clear hbx hgb hcv hc hs1 hs2
      by_cases hz : 0 < j
      · have t2 : decide ((j : Int) > 0) = true := decide_eq_true (by omega)
        rw [if_pos hz] at HS1 HS2
        go_wp2_with fail
        clear cA
        go_roundw
        case rel => exact ⟨j + 1, by simp, by omega, by rw [HS1.out, ← cat_list, ← cat_list]; rfl, by rw [HS2.out, ← cat_list, ← cat_list]; rfl, HA⟩
        case measure => simp [intOf]; omega
      · have t2 : decide ((j : Int) > 0) = false := decide_eq_false (by omega)
        rw [if_neg hz, List.append_nil] at HS1 HS2
        go_wp2_with fail
        clear cA
        go_roundw
        case rel => exact ⟨j + 1, by simp, by omega, by rw [HS1.out, ← cat_list]; rfl, by rw [HS2.out, ← cat_list]; rfl, HA⟩
        case measure => simp [intOf]; omega
    · have t1 : decide ((j : Int) < (k : Int)) = false := decide_eq_false (by omega)
      have hje : j = k := by omega
      subst hje
      obtain ⟨q, hq⟩ : ∃ q, j = q + 1 := ⟨j - 1, by omega⟩
      obtain ⟨e1, e2⟩ := sign_one q (by omega)
      rw [← hq] at e1 e2
      have hnl := namT_len j
      unfold signT1 at e1
      unfold signT2 at e2
      have D1 := Lib.hid (fun (wx : World) => stypes_any (sgA1 ++ joinT 124 j ++ sgB1 ++ joinT 38 j ++ sgE) wx (by simp [sgA1, sgB1, sgE]; unfold maxLen; omega))
      have D2 := Lib.hid (fun (wx : World) => stypes_any (sgA2 ++ joinT 124 j ++ sgB2 ++ joinT 38 j ++ sgE) wx (by simp [sgA2, sgB2, sgE]; unfold maxLen; omega))
      rw [e1, ← sign_text1] at D1
      rw [e2, ← sign_text2] at D2
      unfold signD at D1 D2
      have hj20 : j ≤ 20 := by omega
      clear e1 e2 hq hk1 hk2
      generalize joinT 124 j = aj at *
      generalize joinT 38 j = bj at *
      generalize namT j = nm at *
      go_wp2_with fail
      refine (D1.out wr).mono ?_
      rintro e w2 ⟨a1, c1, rfl, h1, O2⟩
      have H1 := Lib.hid h1; have HO2 := Lib.hid (OR.out.trans O2); clear h1 O2
      go_wp2_with fail
      refine (D2.out w2).mono ?_
      rintro e w3 ⟨a2, c2, rfl, h2, O3⟩
      have h1 := CellAt.only O3 (fun _ _ h => h) _ _ H1.out
      have SM := Lib.hid (sameTDs _ _ _ w3 _ _ h1 h2)
      have HO3 := Lib.hid (HO2.out.trans O3)
      obtain ⟨b1, f1, d1, vs, e, hm1, hm2, -, hr1, hc1⟩ := row_at h1 0 (by simp)
      injection e with e2 e3 e4; subst e2; subst e4; clear e3
      obtain ⟨b1', f1', d1', vs', e, -, -, -, hr2, hc2⟩ := row_at h1 1 (by simp)
      injection e with e2 e3 e4; injection e2 with e2; injection e2 with e2 e5 _; subst e2; subst e4; subst e5; clear e3
      have hc1 : CellsAt _ _ (tdC _) vs := hc1
      have hc2 : CellsAt _ _ (tdC _) vs' := hc2
      obtain ⟨fv, nv, rfl, -, hn1⟩ := td_cells hc1
      obtain ⟨fv', nv', rfl, -, hn2⟩ := td_cells hc2
      obtain ⟨x1, y1, rfl, -⟩ := rows_at hn1
      obtain ⟨x2, y2, rfl, -⟩ := rows_at hn2
      have p1 : w3.cell? ⟨b1, f1 + 3, none⟩ = some (.slice x1 j y1) := by have := hr1 3 _ rfl; rw [hnl] at this; simpa using this
      have p2 : w3.cell? ⟨b1, f1 + 7, none⟩ = some (.slice x2 j y2) := by have := hr2 3 _ rfl; rw [hnl] at this; simpa using this
      have p2' : w3.cell? ⟨b1, f1 + 4 + 3, none⟩ = some (.slice x2 j y2) := p2
      have hm1 : 2 ≤ c1 := hm1
      simp only [List.length_cons, List.length_nil] at SM
      have HP := Lib.hid (And.intro p1 p2)
      clear h1 h2 H1 O3 hr1 hr2 hc1 hc2 hn1 hn2 HO2 OR p1 p2 p2'
      go_wp2_with fail
      refine SM.out.mono ?_
      rintro e w4 ⟨rfl, O4⟩
      have p1 := keepc O4 HP.out.1
      have p2 := keepc O4 HP.out.2
      have p2' : w4.cell? ⟨b1, f1 + 4 + 3, none⟩ = some (.slice x2 j y2) := p2
      have HO4 := Lib.hid (HO3.out.trans O4)
      clear O4 SM
      go_wp2_with fail
      clear p1 p2 p2'
      go_ret
      exact ⟨rfl, HO4.out.below (Nat.le_refl _) (fun _ _ h => h)⟩
end Go.Proofs.YtgephneppgcnlaaDoor
