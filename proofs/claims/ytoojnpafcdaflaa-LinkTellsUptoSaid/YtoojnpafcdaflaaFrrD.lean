/- Form: columbary/columbaryref03.Form, of the kinds (5, 6). -/
import Derived.Test.YtoojnpafcdaflaaFrm
namespace Go.Proofs.Ytoojnpafcdaflaa
open Go Go.RowKit
set_option linter.unusedVariables false
set_option linter.unusedSimpArgs false

set_option maxRecDepth 100000 in
set_option maxHeartbeats 40000000 in
theorem rForm_D (z : Nat) (ih : FormIH 24 z) : ∀ (t : VT), SizeOf.sizeOf t ≤ z + 1 → (t.kind = 5 ∨ t.kind = 6) → ∀ (G : Nat → Prop) (w : World) (cs : List Value) (d : Nat), ValAt w G t cs → d ≤ 1000 →
    Calls Try.prog 24 #[.agg cs.toArray, .int .i64 d] w (fun e w' => e = .returned (.bool (formV t d)) ∧ Only (fun _ => False) w w') := by
  intro t ht hcase G w cs d hv hd
  obtain ⟨k, n, s, ks, vs⟩ := t
  rw [VT.kind_mk] at hcase
  have IH := Lib.hid ih; clear ih
  have HT := Lib.hid ht; clear ht
  simp only [ValAt] at hv
  obtain ⟨ak, ck, av, cv, rfl, hk, hn, hs, hck, hcv, hK, hV⟩ := hv
  simp only [formV]
  obtain ⟨lv, hlv⟩ : ∃ lv, lv = vs.length := ⟨_, rfl⟩
  obtain ⟨lk, hlk⟩ : ∃ lk, lk = ks.length := ⟨_, rfl⟩
  rw [← hlv] at hcv ⊢
  rw [← hlk] at hck ⊢
  have HLV := Lib.hid hlv; have HLK := Lib.hid hlk; clear hlv hlk
  have hwb : ∃ wb, wb = w.alloc (.cells #[.int .u8 k, .int .i64 n, .string ⟨s.toArray⟩, .slice ak lk ck, .slice av lv cv] 35) := ⟨_, rfl⟩
  obtain ⟨wb, hwb⟩ := hwb
  have ob : Only (fun _ => False) w wb := by rw [hwb]; exact (Only.refl _ w).alloc _
  have hbox : wb.heap[w.heap.size]? = some (.cells #[.int .u8 k, .int .i64 n, .string ⟨s.toArray⟩, .slice ak lk ck, .slice av lv cv] 35 (0, 0)) := by rw [hwb]; exact heap_new w _
  have hkeep : ∀ w', Only (fun _ => False) wb w' → w'.heap[w.heap.size]? = some (.cells #[.int .u8 k, .int .i64 n, .string ⟨s.toArray⟩, .slice ak lk ck, .slice av lv cv] 35 (0, 0)) := fun w' ho => by
    rw [ho.block _ (Array.getElem?_eq_some_iff.1 hbox).1 (fun h => h)]; exact hbox
  obtain ⟨c0, c1, c2, c3, c4⟩ := box_cells hbox
  rw [hwb] at c0 c1 c2 c3 c4
  have HKEEP := Lib.hid hkeep; have HOB := Lib.hid ob; have HV := Lib.hid hV; have HK := Lib.hid hK; have HWB := Lib.hid hwb
  clear hkeep ob hK hV hbox hwb
  have hvl0 : (0 : Int) ≤ (lv : Int) := by omega
  have hkl0 : (0 : Int) ≤ (lk : Int) := by omega
  by_cases hd24 : 24 ≤ d
  · have b1 : decide ((24 : Int) ≤ (d : Int)) = true := by simp; omega
    rw [if_neg (by unfold ownF; omega)]
    go_enter Try.func24, Try.ntmps24
    go_wp2_with fail
    go_ret
    rw [← HWB.out]
    exact ⟨rfl, HOB.out⟩
  · have b1 : decide ((24 : Int) ≤ (d : Int)) = false := by simp; omega
    rcases hcase with hkc | hkc
    · have e1 : ((k : Int) == 1) = false := by simp; omega
      have e2 : ((k : Int) == 2) = false := by simp; omega
      have e3 : ((k : Int) == 3) = false := by simp; omega
      have e4 : ((k : Int) == 4) = false := by simp; omega
      have e5 : ((k : Int) == 5) = true := by simp; omega
      have e6 : ((k : Int) == 6) = false := by simp; omega
      have e7 : ((k : Int) == 7) = false := by simp; omega
      have e8 : ((k : Int) == 8) = false := by simp; omega
      have f1 : ((k : Int) != 1) = true := by simp; omega
      have f3 : ((k : Int) != 3) = true := by simp; omega
      have f5 : ((k : Int) != 5) = false := by simp; omega
      have f6 : ((k : Int) != 6) = true := by simp; omega
      have g8 : decide ((8 : Int) < (k : Int)) = false := by simp; omega
      have g7 : decide ((7 : Int) ≤ (k : Int)) = false := by simp; omega
      have g9 : decide ((k : Int) ≤ 8) = true := by simp; omega
      by_cases hA : 200 < lv
      · have l1 : decide ((200 : Int) < (lv : Int)) = true := by simp; omega
        rw [if_neg (fun h => by obtain ⟨h1, h2, h3, h4, h5, h6, h7, h8, h9⟩ := h; rw [← HLV.out] at h3; omega)]
        have HKC := Lib.hid hkc; clear hkc
        go_enter Try.func24, Try.ntmps24
        go_wp2_with fail
        all_goals (go_ret; rw [← HWB.out]; exact ⟨rfl, HOB.out⟩)
      have l1 : decide ((200 : Int) < (lv : Int)) = false := by simp; omega
      by_cases hB : 200 < s.length
      · have l2 : decide ((200 : Int) < (s.length : Int)) = true := by simp; omega
        rw [if_neg (fun h => by obtain ⟨h1, h2, h3, h4, h5, h6, h7, h8, h9⟩ := h; omega)]
        have HKC := Lib.hid hkc; clear hkc
        go_enter Try.func24, Try.ntmps24
        go_wp2_with fail
        all_goals (go_ret; rw [← HWB.out]; exact ⟨rfl, HOB.out⟩)
      have l2 : decide ((200 : Int) < (s.length : Int)) = false := by simp; omega
      by_cases hn0 : n = 0
      · subst hn0
        cases hse : s.isEmpty with
        | false =>
          have HSE := Lib.hid hse
          rw [if_neg (fun h => by obtain ⟨h1, h2, h3, h4, h5, h6, h7, h8, h9⟩ := h; have := h6 (by intro e; rw [e] at hse; cases hse); omega)]
          have HKC := Lib.hid hkc; clear hkc
          go_enter Try.func24, Try.ntmps24
          go_wp2_with fail
          all_goals (go_ret; rw [← HWB.out]; exact ⟨rfl, HOB.out⟩)
        | true =>
          obtain rfl : s = [] := List.isEmpty_iff.1 hse
          clear hse
          by_cases hK0 : 0 < lk
          · have HK0 := Lib.hid hK0
            rw [if_neg (fun h => by obtain ⟨h1, h2, h3, h4, h5, h6, h7, h8, h9⟩ := h; have h11 := h9 (by omega); have h10 := HLK.out; have h12 := HK0.out; rw [h11] at h10; simp at h10; omega)]
            have HKC := Lib.hid hkc; clear hkc
            go_enter Try.func24, Try.ntmps24
            go_wp2_with fail
            all_goals (go_ret; rw [← HWB.out]; exact ⟨rfl, HOB.out⟩)
          obtain rfl : lk = 0 := by omega
          clear hK0
          rw [if_pos (by refine ⟨by omega, by omega, by rw [← HLV.out]; omega, by first | omega | simp, by omega, by first | (intro _; omega) | (intro h; exact absurd rfl h), by first | (intro _; omega) | (intro h; exact absurd (List.eq_nil_of_length_eq_zero HLV.out.symm) h), by first | (intro h; omega) | (intro _; rw [← HLV.out, ← HLK.out]), by first | (intro h; omega) | (intro _; exact List.eq_nil_of_length_eq_zero HLK.out.symm)⟩), show decide (k = 6) = false from by simp; omega]
          have HKC := Lib.hid hkc; clear hkc
          go_enter Try.func24, Try.ntmps24
          go_wp2_with fail
          rw [← HWB.out]
          go_loopw [7] (fun v wr => ∃ i : Nat, v = .int .i64 (i : Int) ∧ i ≤ lv ∧ Hid (formVs false (ks.drop i) (vs.drop i) (d + 1) = formVs false ks vs (d + 1)) ∧ Hid (Only (fun _ => False) wb wr)) (fun v _ => lv - (intOf v).toNat)
          case atStart => exact ⟨0, by simp, by omega, Lib.hid (by simp), Lib.hid (Only.refl _ _)⟩
          case round =>
            obtain ⟨i, rfl, hi, HF, HO⟩ := hrel
            obtain ⟨c0, c1, c2, c3, c4⟩ := box_cells (HKEEP.out _ HO.out)
            by_cases hlt : i < lv
            · have t3 : decide ((i : Int) < (lv : Int)) = true := by simpa using hlt
              have hi0 : (0 : Int) ≤ (i : Int) := by omega
              have hi1 : (i : Int) < (lv : Int) := by omega
              have hltv : i < vs.length := by rw [← HLV.out]; exact hlt
              obtain ⟨bv, offv, hav, hGv, hbv, hvals⟩ := HV.out (by omega)
              subst hav
              obtain ⟨cs, hcl, hcr, hcv'⟩ := valsAt_get hvals i hltv
              obtain ⟨k', n', s', ak', lk', ck', av', lv', cv', rfl⟩ := valAt_form hcv'
              have oww : Only (fun _ => False) w wr := HOB.out.trans HO.out
              have hnx := HF.out
              rw [formVs_drop false (d + 1) ks vs i hltv] at hnx
              have HNX := Lib.hid hnx; clear hnx
              have HN2 := HNX.out
              rw [if_neg (fun h => by cases h.1)] at HN2
              have HNX2 := Lib.hid HN2; clear HN2 HNX
              have hrg := range_only hcr hbv oww (fun h => h)
              have HIL := Lib.hid hltv
              have hv9 := valAt_only (S := fun _ => False) oww (fun _ _ h => h) vs[i] _ hcv'
              have hrec := IH.out vs[i] (by have h1 := sizeOf_get (k := k) (n := 0) (s := []) (ks := ks) i hltv; have h2 := HT.out; simp only [VT.mk.sizeOf_spec] at h1 h2 ⊢; omega) G wr _ (d + 1) hv9 (by omega)
              rw [Int.natCast_add] at hrec
              generalize vs[i] = vi at *
              cases hb : formV vi (d + 1)
              · rw [hb] at hrec
                have HN3 := HNX2.out
                rw [hb] at HN3
                have HNX3 := Lib.hid HN3; have HREC := Lib.hid hrec; have HRG := Lib.hid hrg; have HBV := Lib.hid hbv; have OWW := Lib.hid oww; clear HN3 HNX2 hrec hrg hv9 hcr hcv' hvals hcl hb hbv oww hltv
                obtain ⟨d0, d1, d2, d3, d4⟩ := range5 HRG.out
                go_wp2_with fail
                refine HREC.out.mono ?_
                rintro e w7 ⟨rfl, o7⟩
                have O7 := Lib.hid o7; clear o7
                go_wp2_with fail
                go_ret
                refine ⟨?_, (HOB.out.trans HO.out).trans O7.out⟩
                rw [← HNX3.out]; rfl
              · rw [hb] at hrec
                have HN3 := HNX2.out
                rw [hb] at HN3
                have HNX3 := Lib.hid HN3; have HREC := Lib.hid hrec; have HRG := Lib.hid hrg; have HBV := Lib.hid hbv; have OWW := Lib.hid oww; clear HN3 HNX2 hrec hrg hv9 hcr hcv' hvals hcl hb hbv oww hltv
                obtain ⟨d0, d1, d2, d3, d4⟩ := range5 HRG.out
                go_wp2_with fail
                refine HREC.out.mono ?_
                rintro e w7 ⟨rfl, o7⟩
                have O7 := Lib.hid o7; clear o7
                go_wp2_with fail
                go_roundw
                case rel => exact ⟨i + 1, by simp [go_sem], by omega, Lib.hid HNX3.out, Lib.hid (HO.out.trans O7.out)⟩
                case measure => simp [intOf]; omega
            have hke : i = lv := by omega
            subst hke
            have t3 : decide ((i : Int) < (i : Int)) = false := by simp
            go_wp2_with fail
            go_ret
            refine ⟨?_, HOB.out.trans HO.out⟩
            have h := HF.out
            rw [show vs.drop i = [] from List.drop_eq_nil_of_le (by rw [← HLV.out]; omega)] at h
            simp only [formVs] at h
            rw [← h]; rfl
      have HN0 := Lib.hid hn0
      have m0 : (n == 0) = false := by simpa using hn0
      have m1 : (n != 0) = true := by simpa using hn0
      clear hn0
      rw [if_neg (fun h => by obtain ⟨h1, h2, h3, h4, h5, h6, h7, h8, h9⟩ := h; have := HN0.out; omega)]
      have HKC := Lib.hid hkc; clear hkc
      go_enter Try.func24, Try.ntmps24
      go_wp2_with fail
      all_goals (go_ret; rw [← HWB.out]; exact ⟨rfl, HOB.out⟩)
    · have e1 : ((k : Int) == 1) = false := by simp; omega
      have e2 : ((k : Int) == 2) = false := by simp; omega
      have e3 : ((k : Int) == 3) = false := by simp; omega
      have e4 : ((k : Int) == 4) = false := by simp; omega
      have e5 : ((k : Int) == 5) = false := by simp; omega
      have e6 : ((k : Int) == 6) = true := by simp; omega
      have e7 : ((k : Int) == 7) = false := by simp; omega
      have e8 : ((k : Int) == 8) = false := by simp; omega
      have f1 : ((k : Int) != 1) = true := by simp; omega
      have f3 : ((k : Int) != 3) = true := by simp; omega
      have f5 : ((k : Int) != 5) = true := by simp; omega
      have f6 : ((k : Int) != 6) = false := by simp; omega
      have g8 : decide ((8 : Int) < (k : Int)) = false := by simp; omega
      have g7 : decide ((7 : Int) ≤ (k : Int)) = false := by simp; omega
      have g9 : decide ((k : Int) ≤ 8) = true := by simp; omega
      by_cases hA : 200 < lv
      · have l1 : decide ((200 : Int) < (lv : Int)) = true := by simp; omega
        rw [if_neg (fun h => by obtain ⟨h1, h2, h3, h4, h5, h6, h7, h8, h9⟩ := h; rw [← HLV.out] at h3; omega)]
        have HKC := Lib.hid hkc; clear hkc
        go_enter Try.func24, Try.ntmps24
        go_wp2_with fail
        all_goals (go_ret; rw [← HWB.out]; exact ⟨rfl, HOB.out⟩)
      have l1 : decide ((200 : Int) < (lv : Int)) = false := by simp; omega
      by_cases hB : 200 < s.length
      · have l2 : decide ((200 : Int) < (s.length : Int)) = true := by simp; omega
        rw [if_neg (fun h => by obtain ⟨h1, h2, h3, h4, h5, h6, h7, h8, h9⟩ := h; omega)]
        have HKC := Lib.hid hkc; clear hkc
        go_enter Try.func24, Try.ntmps24
        go_wp2_with fail
        all_goals (go_ret; rw [← HWB.out]; exact ⟨rfl, HOB.out⟩)
      have l2 : decide ((200 : Int) < (s.length : Int)) = false := by simp; omega
      by_cases hn0 : n = 0
      · subst hn0
        cases hse : s.isEmpty with
        | false =>
          have HSE := Lib.hid hse
          rw [if_neg (fun h => by obtain ⟨h1, h2, h3, h4, h5, h6, h7, h8, h9⟩ := h; have := h6 (by intro e; rw [e] at hse; cases hse); omega)]
          have HKC := Lib.hid hkc; clear hkc
          go_enter Try.func24, Try.ntmps24
          go_wp2_with fail
          all_goals (go_ret; rw [← HWB.out]; exact ⟨rfl, HOB.out⟩)
        | true =>
          obtain rfl : s = [] := List.isEmpty_iff.1 hse
          clear hse
          by_cases hKL : lk = lv
          · subst hKL
            rw [if_pos (by refine ⟨by omega, by omega, by rw [← HLV.out]; omega, by first | omega | simp, by omega, by first | (intro _; omega) | (intro h; exact absurd rfl h), by first | (intro _; omega) | (intro h; exact absurd (List.eq_nil_of_length_eq_zero HLV.out.symm) h), by first | (intro h; omega) | (intro _; rw [← HLV.out, ← HLK.out]), by first | (intro h; omega) | (intro _; exact List.eq_nil_of_length_eq_zero HLK.out.symm)⟩), show decide (k = 6) = true from by simp; omega]
            have HKC := Lib.hid hkc; clear hkc
            go_enter Try.func24, Try.ntmps24
            go_wp2_with fail
            rw [← HWB.out]
            go_loopw [7] (fun v wr => ∃ i : Nat, v = .int .i64 (i : Int) ∧ i ≤ lk ∧ Hid (formVs true (ks.drop i) (vs.drop i) (d + 1) = formVs true ks vs (d + 1)) ∧ Hid (Only (fun _ => False) wb wr)) (fun v _ => lk - (intOf v).toNat)
            case atStart => exact ⟨0, by simp, by omega, Lib.hid (by simp), Lib.hid (Only.refl _ _)⟩
            case round =>
              obtain ⟨i, rfl, hi, HF, HO⟩ := hrel
              obtain ⟨c0, c1, c2, c3, c4⟩ := box_cells (HKEEP.out _ HO.out)
              by_cases hlt : i < lk
              · have t3 : decide ((i : Int) < (lk : Int)) = true := by simpa using hlt
                have hi0 : (0 : Int) ≤ (i : Int) := by omega
                have hi1 : (i : Int) < (lk : Int) := by omega
                have hltv : i < vs.length := by rw [← HLV.out]; exact hlt
                obtain ⟨bv, offv, hav, hGv, hbv, hvals⟩ := HV.out (by omega)
                subst hav
                obtain ⟨cs, hcl, hcr, hcv'⟩ := valsAt_get hvals i hltv
                obtain ⟨k', n', s', ak', lk', ck', av', lv', cv', rfl⟩ := valAt_form hcv'
                have oww : Only (fun _ => False) w wr := HOB.out.trans HO.out
                have hnx := HF.out
                rw [formVs_drop true (d + 1) ks vs i hltv] at hnx
                have HNX := Lib.hid hnx; clear hnx
                obtain ⟨bk, offk, hak, hGk, hbk, hkr⟩ := HK.out (by rw [← HLK.out]; omega)
                subst hak
                have hki : i < ks.length := by rw [← HLK.out]; exact hlt
                have hkc : wr.cell? ⟨bk, offk + i, none⟩ = some (.string ⟨(ks[i]).toArray⟩) := range_only hkr hbk oww (fun h => h) i (strV ks[i]) (by simp [hki])
                have hkd : ks.getD i [] = ks[i] := by rw [List.getD_eq_getElem?_getD, List.getElem?_eq_getElem hki]; rfl
                generalize hki' : ks[i] = ki at *
                have HKI := Lib.hid hki'; clear hki' hkr
                rw [hkd] at HNX
                clear hkd
                by_cases h32 : 32 < ki.length
                · have t5 : decide ((32 : Int) < (ki.length : Int)) = true := by simp; omega
                  have HB := Lib.hid hbv; have HR := Lib.hid hcr; have HS := Lib.hid hvals; have HW9 := Lib.hid hcv'; clear hbv hcr hvals hcv' hcl
                  go_wp2_with fail
                  go_ret
                  refine ⟨?_, oww.trans (Only.refl _ _)⟩
                  rw [← HNX.out, if_pos (by first | exact ⟨rfl, h32⟩ | exact ⟨trivial, h32⟩)]; rfl
                have t5 : decide ((32 : Int) < (ki.length : Int)) = false := by simp; omega
                have HN2 := HNX.out
                rw [if_neg (fun h => h32 h.2)] at HN2
                have HNX2 := Lib.hid HN2; clear HN2 HNX
                have hrg := range_only hcr hbv oww (fun h => h)
                have HIL := Lib.hid hltv
                have hv9 := valAt_only (S := fun _ => False) oww (fun _ _ h => h) vs[i] _ hcv'
                have hrec := IH.out vs[i] (by have h1 := sizeOf_get (k := k) (n := 0) (s := []) (ks := ks) i hltv; have h2 := HT.out; simp only [VT.mk.sizeOf_spec] at h1 h2 ⊢; omega) G wr _ (d + 1) hv9 (by omega)
                rw [Int.natCast_add] at hrec
                generalize vs[i] = vi at *
                cases hb : formV vi (d + 1)
                · rw [hb] at hrec
                  have HN3 := HNX2.out
                  rw [hb] at HN3
                  have HNX3 := Lib.hid HN3; have HREC := Lib.hid hrec; have HRG := Lib.hid hrg; have HBV := Lib.hid hbv; have OWW := Lib.hid oww; clear HN3 HNX2 hrec hrg hv9 hcr hcv' hvals hcl hb hbv oww hltv
                  obtain ⟨d0, d1, d2, d3, d4⟩ := range5 HRG.out
                  go_wp2_with fail
                  refine HREC.out.mono ?_
                  rintro e w7 ⟨rfl, o7⟩
                  have O7 := Lib.hid o7; clear o7
                  go_wp2_with fail
                  go_ret
                  refine ⟨?_, (HOB.out.trans HO.out).trans O7.out⟩
                  rw [← HNX3.out]; rfl
                · rw [hb] at hrec
                  have HN3 := HNX2.out
                  rw [hb] at HN3
                  have HNX3 := Lib.hid HN3; have HREC := Lib.hid hrec; have HRG := Lib.hid hrg; have HBV := Lib.hid hbv; have OWW := Lib.hid oww; clear HN3 HNX2 hrec hrg hv9 hcr hcv' hvals hcl hb hbv oww hltv
                  obtain ⟨d0, d1, d2, d3, d4⟩ := range5 HRG.out
                  go_wp2_with fail
                  refine HREC.out.mono ?_
                  rintro e w7 ⟨rfl, o7⟩
                  have O7 := Lib.hid o7; clear o7
                  go_wp2_with fail
                  go_roundw
                  case rel => exact ⟨i + 1, by simp [go_sem], by omega, Lib.hid HNX3.out, Lib.hid (HO.out.trans O7.out)⟩
                  case measure => simp [intOf]; omega
              have hke : i = lk := by omega
              subst hke
              have t3 : decide ((i : Int) < (i : Int)) = false := by simp
              go_wp2_with fail
              go_ret
              refine ⟨?_, HOB.out.trans HO.out⟩
              have h := HF.out
              rw [show vs.drop i = [] from List.drop_eq_nil_of_le (by rw [← HLV.out]; omega)] at h
              simp only [formVs] at h
              rw [← h]; rfl
          have q1 : ((lk : Int) != (lv : Int)) = true := by simp; omega
          have q2 : ((lk : Int) == (lv : Int)) = false := by simp; omega
          have q3 : (lk != lv) = true := by simp; omega
          have q4 : (lk == lv) = false := by simp; omega
          have HKL := Lib.hid hKL; clear hKL
          rw [if_neg (fun h => by obtain ⟨h1, h2, h3, h4, h5, h6, h7, h8, h9⟩ := h; have := HLV.out; have := HLK.out; have := HKL.out; omega)]
          have HKC := Lib.hid hkc; clear hkc
          go_enter Try.func24, Try.ntmps24
          go_wp2_with fail
          all_goals (go_ret; rw [← HWB.out]; exact ⟨rfl, HOB.out⟩)
      have HN0 := Lib.hid hn0
      have m0 : (n == 0) = false := by simpa using hn0
      have m1 : (n != 0) = true := by simpa using hn0
      clear hn0
      rw [if_neg (fun h => by obtain ⟨h1, h2, h3, h4, h5, h6, h7, h8, h9⟩ := h; have := HN0.out; omega)]
      have HKC := Lib.hid hkc; clear hkc
      go_enter Try.func24, Try.ntmps24
      go_wp2_with fail
      all_goals (go_ret; rw [← HWB.out]; exact ⟨rfl, HOB.out⟩)
end Go.Proofs.Ytoojnpafcdaflaa
