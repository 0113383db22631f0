/- ParseCut: the walk. -/
import Derived.Test.YtgephneppgcnlaaDoorPaw
import Derived.Test.YtgephneppgcnlaaDoorPlA
namespace Go.Proofs.YtgephneppgcnlaaDoor
open Go Go.RowKit
set_option linter.unusedVariables false
set_option linter.unusedSimpArgs false

theorem document_b (s : ByteArray) (w : World) (hs : s.size ≤ maxLen) : Calls Tryd.prog 14 #[.string s] w (DocRes w (docP s.data.toList)) := document_any s.data.toList w hs
theorem docP_bad {s : List UInt8} {a e : Nat} (h : docP s = .bad a e) : e ≠ 0 := by
  unfold docP at h
  cases ht : toks s with
  | bad x c =>
    rw [ht] at h
    have h : DR1.bad x c = .bad a e := h
    injection h with _ h; subst h; exact toks_bad ht
  | ok ts =>
    rw [ht] at h
    have h : (match docF (ts.length + 1) ⟨[], []⟩ ts with | .ok d _ => DR1.ok d | .bad a e => .bad a e) = .bad a e := h
    cases hd : docF (ts.length + 1) ⟨[], []⟩ ts with
    | ok d r => rw [hd] at h; cases h
    | bad x c => rw [hd] at h; injection h with _ h; subst h; exact docF_bad hd
theorem docP_long {s : List UInt8} (h : 2000 < s.length) : docP s = .bad 0 2 := by
  unfold docP toks; rw [if_pos h]
set_option maxRecDepth 100000 in
set_option maxHeartbeats 8000000 in
theorem pcut_walk (s : ByteArray) (w : World) (hs : s.size ≤ maxLen) : Calls Tryd.prog 8 #[.string s] w fun e w' => e = .returned (.bool true) ∧ Below w.heap.size w w' := by
  have A := Lib.hid (awake06 w)
  unfold maxLen at hs
  go_enter Tryd.func8, Tryd.ntmps8
  go_wp2_with fail
  refine A.out.mono ?_
  rintro e w1 ⟨rfl, O1⟩
  have HO1 := Lib.hid O1; clear O1 A
  by_cases hbig : 900 < s.size
  · have A := Lib.hid (awake06 w1)
    have t1 : decide ((s.size : Int) > 900) = true := decide_eq_true (by omega)
    go_wp2_with fail
    refine A.out.mono ?_
    rintro e w2 ⟨rfl, O2⟩
    have HO2 := Lib.hid (HO1.out.trans O2); clear O2 A
    go_wp2_with fail
    go_ret
    exact ⟨rfl, HO2.out.below (Nat.le_refl _) (fun _ _ h => h)⟩
  have t1 : decide ((s.size : Int) > 900) = false := decide_eq_false (by omega)
  have hl9 : s.size ≤ 900 := by omega
  have D := Lib.hid (document_b s w1 (by unfold maxLen; omega))
  clear hbig
  cases hd : docP s.data.toList with
  | bad a c =>
    rw [hd] at D
    have hc := docP_bad hd
    have hne : ((c : Int) != 0) = true := by simp; omega
    go_wp2_with fail
    refine D.out.mono ?_
    rintro e w3 ⟨rfl, O3⟩
    have HO3 := Lib.hid ((HO1.out.trans O3).alloc (.cells #[.slice none 0 0, .slice none 0 0] 26)); clear O3 D hd
    go_wp2_with fail
    go_ret
    exact ⟨rfl, HO3.out.below (Nat.le_refl _) (fun _ _ h => h)⟩
  | ok d =>
    rw [hd] at D
    have hbr := docP_brace hd
    have HD := Lib.hid hd
    clear hd
    go_wp2_with fail
    refine D.out.mono ?_
    rintro e w3 ⟨a1, c1, a2, c2, rfl, -, O3⟩
    obtain ⟨wA, hwA⟩ : ∃ wA, w3.alloc (.cells #[.slice a1 d.ops.length c1, .slice a2 d.frags.length c2] 26) = wA := ⟨_, rfl⟩
    have hbx := heap_new w3 (.cells #[.slice a1 d.ops.length c1, .slice a2 d.frags.length c2] 26)
    rw [hwA] at hbx
    obtain ⟨q0, q1, -⟩ := boxN2 hbx
    obtain ⟨B, hB⟩ : ∃ B, w3.heap.size = B := ⟨_, rfl⟩
    rw [hB] at q0 q1
    have HOA := Lib.hid ((HO1.out.trans O3).alloc (.cells #[.slice a1 d.ops.length c1, .slice a2 d.frags.length c2] 26))
    rw [hwA] at HOA
    have HWA := Lib.hid hwA; have HB := Lib.hid hB
    have HBR := Lib.hid hbr
    clear O3 D hwA hbx hB hbr
    go_upto_region 4 with (fail)
    rw [HWA.out, HB.out]
    by_cases hf : 0 < d.frags.length
    · have t2 : decide ((d.frags.length : Int) > 0) = true := decide_eq_true (by omega)
      go_wp2_with fail
      clear q0 q1
      go_ret
      exact ⟨rfl, HOA.out.below (Nat.le_refl _) (fun _ _ h => h)⟩
    have t2 : decide ((d.frags.length : Int) > 0) = false := decide_eq_false (by omega)
    by_cases ho : d.ops.length = 1
    · have t3 : ((d.ops.length : Int) != 1) = false := by simp; omega
      go_wp2_with fail
      clear q0 q1 t2 t3 hf ho
      go_loopw [6] (fun x wr => ∃ k : Nat, x = .int .i64 (k : Int) ∧ k ≤ s.size ∧ Hid (∃ c, c ∈ s.data.toList.take k ∧ c.toNat = 125) ∧ wr = wA) (fun x _ => (intOf x).toNat)
      case atStart => exact ⟨s.size, rfl, Nat.le_refl _, Lib.hid (by have := HBR.out; rw [List.take_of_length_le (show s.data.toList.length ≤ s.size from Nat.le_refl _)]; exact this), rfl⟩
      case round =>
        obtain ⟨k, rfl, hk, HT, rfl⟩ := hrel
        cases k with
        | zero => exact absurd HT.out (by simp)
        | succ m =>
          have hm : m < s.size := by omega
          have t2 : decide (((m + 1 : Nat) : Int) > 0) = true := decide_eq_true (by omega)
          by_cases hc : s[m].toNat = 125
          · have t3 : ((s[m].toNat : Int) != 125) = false := by simp; omega
            have HM := Lib.hid hc
            clear HT
            go_wp2_with fail
            clear t2 t3 hc
            go_loopw [7] (fun x wq => ∃ i : Nat, x = .int .i64 (i : Int) ∧ i ≤ s.size ∧ Hid (∀ j (hj : j < s.data.toList.length), j < i → s.data.toList[j].toNat ≠ 34 ∧ s.data.toList[j].toNat ≠ 35) ∧ wq = wr) (fun x _ => s.size - (intOf x).toNat)
            case atStart => exact ⟨0, rfl, Nat.zero_le _, Lib.hid (fun j _ h => absurd h (by omega)), rfl⟩
            case round =>
              obtain ⟨i, rfl, hi, HI, rfl⟩ := hrel
              by_cases hlt : i < s.size
              · have t2 : decide ((i : Int) < (s.size : Int)) = true := decide_eq_true (by omega)
                by_cases h35 : s[i].toNat = 35
                · have t3 : ((s[i].toNat : Int) == 35) = true := by simp; omega
                  go_wp2_with fail
                  go_ret
                  exact ⟨rfl, HOA.out.below (Nat.le_refl _) (fun _ _ h => h)⟩
                have t3 : ((s[i].toNat : Int) == 35) = false := by simp; omega
                by_cases h34 : s[i].toNat = 34
                · have t4 : ((s[i].toNat : Int) == 34) = true := by simp; omega
                  go_wp2_with fail
                  go_ret
                  exact ⟨rfl, HOA.out.below (Nat.le_refl _) (fun _ _ h => h)⟩
                have t4 : ((s[i].toNat : Int) == 34) = false := by simp; omega
                have HN := Lib.hid (And.intro h34 h35)
                go_wp2_with fail
                go_roundw
                case rel =>
                  refine ⟨i + 1, by simp, by omega, Lib.hid (fun j hj hji => ?_), by first | rfl | trivial⟩
                  rcases Nat.lt_or_ge j i with h | h
                  · exact HI.out j hj h
                  · obtain rfl : j = i := by omega
                    exact HN.out
                case measure => simp [intOf]; omega
              · have t2 : decide ((i : Int) < (s.size : Int)) = false := decide_eq_false (by omega)
                have hie : i = s.size := by omega
                subst hie
                have hcut : docP (s.extract 0 m).data.toList = .bad m 4 := by
                  rw [extract_pre]
                  have hl : m < s.data.toList.length := hm
                  have e : s.data.toList = s.data.toList.take m ++ 125 :: s.data.toList.drop (m + 1) := by
                    have h1 : s.data.toList[m] = 125 := UInt8.toNat_inj.1 HM.out
                    conv => lhs; rw [← List.take_append_drop m s.data.toList, List.drop_eq_getElem_cons hl, h1]
                  have := docP_cut HD.out e (fun c hc => by
                    obtain ⟨j, hj, rfl⟩ := List.mem_iff_getElem.1 hc
                    exact HI.out j hj hj)
                  rw [this, List.length_take, Nat.min_eq_left (by omega)]
                have D := Lib.hid (document_b (s.extract 0 m) wr (by rw [ByteArray.size_extract]; unfold maxLen; omega))
                rw [hcut] at D
                clear hcut HI
                go_wp2_with fail
                refine D.out.mono ?_
                rintro e w5 ⟨rfl, O5⟩
                have HO5 := Lib.hid ((HOA.out.trans O5).alloc (.cells #[.slice none 0 0, .slice none 0 0] 26)); clear O5
                go_wp2_with fail
                go_ret
                exact ⟨rfl, HO5.out.below (Nat.le_refl _) (fun _ _ h => h)⟩
          · have t3 : ((s[m].toNat : Int) != 125) = true := by simp; omega
            have HN := Lib.hid hc
            go_wp2_with fail
            refine ⟨⟨m, rfl, by omega, Lib.hid ?_, trivial⟩, by simp [intOf]⟩
            obtain ⟨c, h1, h2⟩ := HT.out
            have hl : m < s.data.toList.length := hm
            rw [List.take_succ_eq_append_getElem hl] at h1
            rcases List.mem_append.1 h1 with h1 | h1
            · exact ⟨c, h1, h2⟩
            · rw [List.mem_singleton] at h1
              subst h1; exact absurd h2 HN.out
    · have t3 : ((d.ops.length : Int) != 1) = true := by simp; omega
      go_wp2_with fail
      clear q0 q1
      go_ret
      exact ⟨rfl, HOA.out.below (Nat.le_refl _) (fun _ _ h => h)⟩
end Go.Proofs.YtgephneppgcnlaaDoor
