/- . -/
import Derived.Test.YtnkpoddbbdmipaaGreatDoorUaVlp
import Derived.Test.YtnkpoddbbdmipaaGreatDoorUaFrrA
import Derived.Test.YtnkpoddbbdmipaaGreatDoorUaFrrC
import Derived.Test.YtnkpoddbbdmipaaGreatDoorRows
import Derived.Test.YtnkpoddbbdmipaaGreatDoorUaReads
namespace Go.Proofs.YtnkpoddbbdmipaaGreatDoor
open Go Go.RowKit
open Go.Lib (hid)
set_option linter.unusedVariables false
set_option linter.unusedSimpArgs false
set_option maxRecDepth 100000 in
set_option maxHeartbeats 40000000 in
theorem rForm_D (z : Nat) (ih : FormIH 17 z) : ∀ (t : VT), SizeOf.sizeOf t ≤ z + 1 → (t.kind = 5 ∨ t.kind = 6) → ∀ (G : Nat → Prop) (w : World) (cs : List Value) (d : Nat), ValAt w G t cs → d ≤ 1000 →
  Calls Tryz.prog 17 #[.agg cs.toArray, .int .i64 d] w (fun e w' => e = .returned (.bool (formV t d)) ∧ Only (fun _ => False) w w') := by
 intro t ht hcase G w cs d hv hd; obtain ⟨k, n, s, ks, vs⟩ := t; rw [VT.kind_mk] at hcase; have IH := hid ih; clear ih; have HT := hid ht; clear ht; simp only [ValAt] at hv; obtain ⟨ak, ck, av, cv, rfl, hk, hn, hs, hck, hcv, hK, hV⟩ := hv; simp only [formV]; obtain ⟨lv, hlv⟩ : ∃ lv, lv = vs.length := ⟨_, rfl⟩; obtain ⟨lk, hlk⟩ : ∃ lk, lk = ks.length := ⟨_, rfl⟩; rw [← hlv] at hcv ⊢; rw [← hlk] at hck ⊢; have HLV := hid hlv; have HLK := hid hlk; clear hlv hlk; have hwb : ∃ wb, wb = w.alloc (.cells #[.int .u8 k, .int .i64 n, .string ⟨s.toArray⟩, .slice ak lk ck, .slice av lv cv] 35) := ⟨_, rfl⟩; obtain ⟨wb, hwb⟩ := hwb; have ob : Only (fun _ => False) w wb := by rw [hwb]; exact (Only.refl _ w).alloc _
 have hbox : wb.heap[w.heap.size]? = some (.cells #[.int .u8 k, .int .i64 n, .string ⟨s.toArray⟩, .slice ak lk ck, .slice av lv cv] 35 (0, 0)) := by rw [hwb]; exact heap_new w _
 have hkeep : ∀ w', Only (fun _ => False) wb w' → w'.heap[w.heap.size]? = some (.cells #[.int .u8 k, .int .i64 n, .string ⟨s.toArray⟩, .slice ak lk ck, .slice av lv cv] 35 (0, 0)) := fun w' ho => by
  rw [ho.block _ (Array.getElem?_eq_some_iff.1 hbox).1 (fun h => h)]; exact hbox
 obtain ⟨c0, c1, c2, c3, c4⟩ := box_cells hbox; rw [hwb] at c0 c1 c2 c3 c4; have HKEEP := hid hkeep; have HOB := hid ob; have HV := hid hV; have HK := hid hK; have HWB := hid hwb; clear hkeep ob hK hV hbox hwb; have hvl0 : (0 : Int) ≤ (lv : Int) := by omega
 have hkl0 : (0 : Int) ≤ (lk : Int) := by omega
 by_cases hd24 : 24 ≤ d
 ·have b1 : decide ((24 : Int) ≤ (d : Int)) = true := by simp; omega
  rw [if_neg (by unfold ownF; omega)]
  go_enter Tryz.func17, Tryz.ntmps17
  go_wp2_with fail
  go_ret
  rw [← HWB.out]; exact ⟨rfl, HOB.out⟩
 ·have b1 : decide ((24 : Int) ≤ (d : Int)) = false := by simp; omega
  rcases hcase with hkc | hkc
  ·have e1 : ((k : Int) == 1) = false := by simp; omega
   have e2 : ((k : Int) == 2) = false := by simp; omega
   have e3 : ((k : Int) == 3) = false := by simp; omega
   have e4 : ((k : Int) == 4) = false := by simp; omega
   have e5 : ((k : Int) == 5) = true := by simp; omega
   have e6 : ((k : Int) == 6) = false := by simp; omega
   have e7 : ((k : Int) == 7) = false := by simp; omega
   have e8 : ((k : Int) == 8) = false := by simp; omega
   have f1 : ((k : Int) != 1) = true := by simp; omega
   have f3 : ((k : Int) != 3) = true := by simp; omega
   have f5 : ((k : Int) != 5) = false := by simp; omega
   have f6 : ((k : Int) != 6) = true := by simp; omega
   have g8 : decide ((8 : Int) < (k : Int)) = false := by simp; omega
   have g7 : decide ((7 : Int) ≤ (k : Int)) = false := by simp; omega
   have g9 : decide ((k : Int) ≤ 8) = true := by simp; omega
   by_cases hA : 200 < lv
   ·have l1 : decide ((200 : Int) < (lv : Int)) = true := by simp; omega
    rw [if_neg (fun h => by obtain ⟨h1, h2, h3, h4, h5, h6, h7, h8, h9⟩ := h; rw [← HLV.out] at h3; omega)]; have HKC := hid hkc; clear hkc
    go_enter Tryz.func17, Tryz.ntmps17
    go_wp2_with fail
    all_goals (go_ret; rw [← HWB.out]; exact ⟨rfl, HOB.out⟩)
   have l1 : decide ((200 : Int) < (lv : Int)) = false := by simp; omega
   by_cases hB : 200 < s.length
   ·have l2 : decide ((200 : Int) < (s.length : Int)) = true := by simp; omega
    rw [if_neg (fun h => by obtain ⟨h1, h2, h3, h4, h5, h6, h7, h8, h9⟩ := h; omega)]; have HKC := hid hkc; clear hkc
    go_enter Tryz.func17, Tryz.ntmps17
    go_wp2_with fail
    all_goals (go_ret; rw [← HWB.out]; exact ⟨rfl, HOB.out⟩)
   have l2 : decide ((200 : Int) < (s.length : Int)) = false := by simp; omega
   by_cases hn0 : n = 0
   ·subst hn0
    cases hse : s.isEmpty with
    | false =>
     have HSE := hid hse; rw [if_neg (fun h => by obtain ⟨h1, h2, h3, h4, h5, h6, h7, h8, h9⟩ := h; have := h6 (by intro e; rw [e] at hse; cases hse); omega)]; have HKC := hid hkc; clear hkc
     go_enter Tryz.func17, Tryz.ntmps17
     go_wp2_with fail
     all_goals (go_ret; rw [← HWB.out]; exact ⟨rfl, HOB.out⟩)
    | true =>
     obtain rfl : s = [] := List.isEmpty_iff.1 hse; clear hse
     by_cases hK0 : 0 < lk
     ·have HK0 := hid hK0; rw [if_neg (fun h => by obtain ⟨h1, h2, h3, h4, h5, h6, h7, h8, h9⟩ := h; have h11 := h9 (by omega); have h10 := HLK.out; have h12 := HK0.out; rw [h11] at h10; simp at h10; omega)]; have HKC := hid hkc; clear hkc
      go_enter Tryz.func17, Tryz.ntmps17
      go_wp2_with fail
      all_goals (go_ret; rw [← HWB.out]; exact ⟨rfl, HOB.out⟩)
     obtain rfl : lk = 0 := by omega
     clear hK0; rw [if_pos (by refine ⟨by omega, by omega, by rw [← HLV.out]; omega, by first | omega | simp, by omega, by first | (intro _; omega) | (intro h; exact absurd rfl h), by first | (intro _; omega) | (intro h; exact absurd (List.eq_nil_of_length_eq_zero HLV.out.symm) h), by first | (intro h; omega) | (intro _; rw [← HLV.out, ← HLK.out]), by first | (intro h; omega) | (intro _; exact List.eq_nil_of_length_eq_zero HLK.out.symm)⟩), show decide (k = 6) = false from by simp; omega]; have HKC := hid hkc; clear hkc
     go_enter Tryz.func17, Tryz.ntmps17
     go_wp2_with fail
     rw [← HWB.out]
     go_loopw [7] (fun v wr => ∃ i : Nat, v = .int .i64 (i : Int) ∧ i ≤ lv ∧ Hid (formVs false (ks.drop i) (vs.drop i) (d + 1) = formVs false ks vs (d + 1)) ∧ Hid (Only (fun _ => False) wb wr)) (fun v _ => lv - (intOf v).toNat)
     case atStart => exact ⟨0, by simp, by omega, hid (by simp), hid (Only.refl _ _)⟩
     case round =>
      obtain ⟨i, rfl, hi, HF, HO⟩ := hrel; obtain ⟨c0, c1, c2, c3, c4⟩ := box_cells (HKEEP.out _ HO.out)
      by_cases hlt : i < lv
      ·have t3 : decide ((i : Int) < (lv : Int)) = true := by simpa using hlt
       have hi0 : (0 : Int) ≤ (i : Int) := by omega
       have hi1 : (i : Int) < (lv : Int) := by omega
       have hltv : i < vs.length := by rw [← HLV.out]; exact hlt
       obtain ⟨bv, offv, hav, hGv, hbv, hvals⟩ := HV.out (by omega); subst hav; obtain ⟨cs, hcl, hcr, hcv'⟩ := valsAt_get hvals i hltv; obtain ⟨k', n', s', ak', lk', ck', av', lv', cv', rfl⟩ := valAt_form hcv'; have oww : Only (fun _ => False) w wr := HOB.out.trans HO.out; have hnx := HF.out; rw [formVs_drop false (d + 1) ks vs i hltv] at hnx; have HNX := hid hnx; clear hnx; have HN2 := HNX.out; rw [if_neg (fun h => by cases h.1)] at HN2; have HNX2 := hid HN2; clear HN2 HNX; have hrg := range_only hcr hbv oww (fun h => h); have HIL := hid hltv; have hv9 := valAt_only (S := fun _ => False) oww (fun _ _ h => h) vs[i] _ hcv'; have hrec := IH.out vs[i] (by have h1 := sizeOf_get (k := k) (n := 0) (s := []) (ks := ks) i hltv; have h2 := HT.out; simp only [VT.mk.sizeOf_spec] at h1 h2 ⊢; omega) G wr _ (d + 1) hv9 (by omega); rw [Int.natCast_add] at hrec
       generalize vs[i] = vi at *
       cases hb : formV vi (d + 1)
       ·rw [hb] at hrec; have HN3 := HNX2.out; rw [hb] at HN3; have HNX3 := hid HN3; have HREC := hid hrec; have HRG := hid hrg; have HBV := hid hbv; have OWW := hid oww; clear HN3 HNX2 hrec hrg hv9 hcr hcv' hvals hcl hb hbv oww hltv; obtain ⟨d0, d1, d2, d3, d4⟩ := range5 HRG.out
        go_wp2_with fail
        refine HREC.out.mono ?_
        rintro e w7 ⟨rfl, o7⟩; have O7 := hid o7; clear o7
        go_wp2_with fail
        go_ret
        refine ⟨?_, (HOB.out.trans HO.out).trans O7.out⟩
        rw [← HNX3.out]; rfl
       ·rw [hb] at hrec; have HN3 := HNX2.out; rw [hb] at HN3; have HNX3 := hid HN3; have HREC := hid hrec; have HRG := hid hrg; have HBV := hid hbv; have OWW := hid oww; clear HN3 HNX2 hrec hrg hv9 hcr hcv' hvals hcl hb hbv oww hltv; obtain ⟨d0, d1, d2, d3, d4⟩ := range5 HRG.out
        go_wp2_with fail
        refine HREC.out.mono ?_
        rintro e w7 ⟨rfl, o7⟩; have O7 := hid o7; clear o7
        go_wp2_with fail
        go_roundw
        case rel => exact ⟨i + 1, by simp [go_sem], by omega, hid HNX3.out, hid (HO.out.trans O7.out)⟩
        case measure => simp [intOf]; omega
      have hke : i = lv := by omega
      subst hke; have t3 : decide ((i : Int) < (i : Int)) = false := by simp
      go_wp2_with fail
      go_ret
      refine ⟨?_, HOB.out.trans HO.out⟩
      have h := HF.out; rw [show vs.drop i = [] from List.drop_eq_nil_of_le (by rw [← HLV.out]; omega)] at h; simp only [formVs] at h; rw [← h]; rfl
   have HN0 := hid hn0; have m0 : (n == 0) = false := by simpa using hn0
   have m1 : (n != 0) = true := by simpa using hn0
   clear hn0; rw [if_neg (fun h => by obtain ⟨h1, h2, h3, h4, h5, h6, h7, h8, h9⟩ := h; have := HN0.out; omega)]; have HKC := hid hkc; clear hkc
   go_enter Tryz.func17, Tryz.ntmps17
   go_wp2_with fail
   all_goals (go_ret; rw [← HWB.out]; exact ⟨rfl, HOB.out⟩)
  ·have e1 : ((k : Int) == 1) = false := by simp; omega
   have e2 : ((k : Int) == 2) = false := by simp; omega
   have e3 : ((k : Int) == 3) = false := by simp; omega
   have e4 : ((k : Int) == 4) = false := by simp; omega
   have e5 : ((k : Int) == 5) = false := by simp; omega
   have e6 : ((k : Int) == 6) = true := by simp; omega
   have e7 : ((k : Int) == 7) = false := by simp; omega
   have e8 : ((k : Int) == 8) = false := by simp; omega
   have f1 : ((k : Int) != 1) = true := by simp; omega
   have f3 : ((k : Int) != 3) = true := by simp; omega
   have f5 : ((k : Int) != 5) = true := by simp; omega
   have f6 : ((k : Int) != 6) = false := by simp; omega
   have g8 : decide ((8 : Int) < (k : Int)) = false := by simp; omega
   have g7 : decide ((7 : Int) ≤ (k : Int)) = false := by simp; omega
   have g9 : decide ((k : Int) ≤ 8) = true := by simp; omega
   by_cases hA : 200 < lv
   ·have l1 : decide ((200 : Int) < (lv : Int)) = true := by simp; omega
    rw [if_neg (fun h => by obtain ⟨h1, h2, h3, h4, h5, h6, h7, h8, h9⟩ := h; rw [← HLV.out] at h3; omega)]; have HKC := hid hkc; clear hkc
    go_enter Tryz.func17, Tryz.ntmps17
    go_wp2_with fail
    all_goals (go_ret; rw [← HWB.out]; exact ⟨rfl, HOB.out⟩)
   have l1 : decide ((200 : Int) < (lv : Int)) = false := by simp; omega
   by_cases hB : 200 < s.length
   ·have l2 : decide ((200 : Int) < (s.length : Int)) = true := by simp; omega
    rw [if_neg (fun h => by obtain ⟨h1, h2, h3, h4, h5, h6, h7, h8, h9⟩ := h; omega)]; have HKC := hid hkc; clear hkc
    go_enter Tryz.func17, Tryz.ntmps17
    go_wp2_with fail
    all_goals (go_ret; rw [← HWB.out]; exact ⟨rfl, HOB.out⟩)
   have l2 : decide ((200 : Int) < (s.length : Int)) = false := by simp; omega
   by_cases hn0 : n = 0
   ·subst hn0
    cases hse : s.isEmpty with
    | false =>
     have HSE := hid hse; rw [if_neg (fun h => by obtain ⟨h1, h2, h3, h4, h5, h6, h7, h8, h9⟩ := h; have := h6 (by intro e; rw [e] at hse; cases hse); omega)]; have HKC := hid hkc; clear hkc
     go_enter Tryz.func17, Tryz.ntmps17
     go_wp2_with fail
     all_goals (go_ret; rw [← HWB.out]; exact ⟨rfl, HOB.out⟩)
    | true =>
     obtain rfl : s = [] := List.isEmpty_iff.1 hse; clear hse
     by_cases hKL : lk = lv
     ·subst hKL; rw [if_pos (by refine ⟨by omega, by omega, by rw [← HLV.out]; omega, by first | omega | simp, by omega, by first | (intro _; omega) | (intro h; exact absurd rfl h), by first | (intro _; omega) | (intro h; exact absurd (List.eq_nil_of_length_eq_zero HLV.out.symm) h), by first | (intro h; omega) | (intro _; rw [← HLV.out, ← HLK.out]), by first | (intro h; omega) | (intro _; exact List.eq_nil_of_length_eq_zero HLK.out.symm)⟩), show decide (k = 6) = true from by simp; omega]; have HKC := hid hkc; clear hkc
      go_enter Tryz.func17, Tryz.ntmps17
      go_wp2_with fail
      rw [← HWB.out]
      go_loopw [7] (fun v wr => ∃ i : Nat, v = .int .i64 (i : Int) ∧ i ≤ lk ∧ Hid (formVs true (ks.drop i) (vs.drop i) (d + 1) = formVs true ks vs (d + 1)) ∧ Hid (Only (fun _ => False) wb wr)) (fun v _ => lk - (intOf v).toNat)
      case atStart => exact ⟨0, by simp, by omega, hid (by simp), hid (Only.refl _ _)⟩
      case round =>
       obtain ⟨i, rfl, hi, HF, HO⟩ := hrel; obtain ⟨c0, c1, c2, c3, c4⟩ := box_cells (HKEEP.out _ HO.out)
       by_cases hlt : i < lk
       ·have t3 : decide ((i : Int) < (lk : Int)) = true := by simpa using hlt
        have hi0 : (0 : Int) ≤ (i : Int) := by omega
        have hi1 : (i : Int) < (lk : Int) := by omega
        have hltv : i < vs.length := by rw [← HLV.out]; exact hlt
        obtain ⟨bv, offv, hav, hGv, hbv, hvals⟩ := HV.out (by omega); subst hav; obtain ⟨cs, hcl, hcr, hcv'⟩ := valsAt_get hvals i hltv; obtain ⟨k', n', s', ak', lk', ck', av', lv', cv', rfl⟩ := valAt_form hcv'; have oww : Only (fun _ => False) w wr := HOB.out.trans HO.out; have hnx := HF.out; rw [formVs_drop true (d + 1) ks vs i hltv] at hnx; have HNX := hid hnx; clear hnx; obtain ⟨bk, offk, hak, hGk, hbk, hkr⟩ := HK.out (by rw [← HLK.out]; omega); subst hak; have hki : i < ks.length := by rw [← HLK.out]; exact hlt
        have hkc : wr.cell? ⟨bk, offk + i, none⟩ = some (.string ⟨(ks[i]).toArray⟩) := range_only hkr hbk oww (fun h => h) i (strV ks[i]) (by simp [hki]); have hkd : ks.getD i [] = ks[i] := by rw [List.getD_eq_getElem?_getD, List.getElem?_eq_getElem hki]; rfl
        generalize hki' : ks[i] = ki at *
        have HKI := hid hki'; clear hki' hkr; rw [hkd] at HNX; clear hkd
        by_cases h32 : 32 < ki.length
        ·have t5 : decide ((32 : Int) < (ki.length : Int)) = true := by simp; omega
         have HB := hid hbv; have HR := hid hcr; have HS := hid hvals; have HW9 := hid hcv'; clear hbv hcr hvals hcv' hcl
         go_wp2_with fail
         go_ret
         refine ⟨?_, oww.trans (Only.refl _ _)⟩
         rw [← HNX.out, if_pos (by first | exact ⟨rfl, h32⟩ | exact ⟨trivial, h32⟩)]; rfl
        have t5 : decide ((32 : Int) < (ki.length : Int)) = false := by simp; omega
        have HN2 := HNX.out; rw [if_neg (fun h => h32 h.2)] at HN2; have HNX2 := hid HN2; clear HN2 HNX; have hrg := range_only hcr hbv oww (fun h => h); have HIL := hid hltv; have hv9 := valAt_only (S := fun _ => False) oww (fun _ _ h => h) vs[i] _ hcv'; have hrec := IH.out vs[i] (by have h1 := sizeOf_get (k := k) (n := 0) (s := []) (ks := ks) i hltv; have h2 := HT.out; simp only [VT.mk.sizeOf_spec] at h1 h2 ⊢; omega) G wr _ (d + 1) hv9 (by omega); rw [Int.natCast_add] at hrec
        generalize vs[i] = vi at *
        cases hb : formV vi (d + 1)
        ·rw [hb] at hrec; have HN3 := HNX2.out; rw [hb] at HN3; have HNX3 := hid HN3; have HREC := hid hrec; have HRG := hid hrg; have HBV := hid hbv; have OWW := hid oww; clear HN3 HNX2 hrec hrg hv9 hcr hcv' hvals hcl hb hbv oww hltv; obtain ⟨d0, d1, d2, d3, d4⟩ := range5 HRG.out
         go_wp2_with fail
         refine HREC.out.mono ?_
         rintro e w7 ⟨rfl, o7⟩; have O7 := hid o7; clear o7
         go_wp2_with fail
         go_ret
         refine ⟨?_, (HOB.out.trans HO.out).trans O7.out⟩
         rw [← HNX3.out]; rfl
        ·rw [hb] at hrec; have HN3 := HNX2.out; rw [hb] at HN3; have HNX3 := hid HN3; have HREC := hid hrec; have HRG := hid hrg; have HBV := hid hbv; have OWW := hid oww; clear HN3 HNX2 hrec hrg hv9 hcr hcv' hvals hcl hb hbv oww hltv; obtain ⟨d0, d1, d2, d3, d4⟩ := range5 HRG.out
         go_wp2_with fail
         refine HREC.out.mono ?_
         rintro e w7 ⟨rfl, o7⟩; have O7 := hid o7; clear o7
         go_wp2_with fail
         go_roundw
         case rel => exact ⟨i + 1, by simp [go_sem], by omega, hid HNX3.out, hid (HO.out.trans O7.out)⟩
         case measure => simp [intOf]; omega
       have hke : i = lk := by omega
       subst hke; have t3 : decide ((i : Int) < (i : Int)) = false := by simp
       go_wp2_with fail
       go_ret
       refine ⟨?_, HOB.out.trans HO.out⟩
       have h := HF.out; rw [show vs.drop i = [] from List.drop_eq_nil_of_le (by rw [← HLV.out]; omega)] at h; simp only [formVs] at h; rw [← h]; rfl
     have q1 : ((lk : Int) != (lv : Int)) = true := by simp; omega
     have q2 : ((lk : Int) == (lv : Int)) = false := by simp; omega
     have q3 : (lk != lv) = true := by simp; omega
     have q4 : (lk == lv) = false := by simp; omega
     have HKL := hid hKL; clear hKL; rw [if_neg (fun h => by obtain ⟨h1, h2, h3, h4, h5, h6, h7, h8, h9⟩ := h; have := HLV.out; have := HLK.out; have := HKL.out; omega)]; have HKC := hid hkc; clear hkc
     go_enter Tryz.func17, Tryz.ntmps17
     go_wp2_with fail
     all_goals (go_ret; rw [← HWB.out]; exact ⟨rfl, HOB.out⟩)
   have HN0 := hid hn0; have m0 : (n == 0) = false := by simpa using hn0
   have m1 : (n != 0) = true := by simpa using hn0
   clear hn0; rw [if_neg (fun h => by obtain ⟨h1, h2, h3, h4, h5, h6, h7, h8, h9⟩ := h; have := HN0.out; omega)]; have HKC := hid hkc; clear hkc
   go_enter Tryz.func17, Tryz.ntmps17
   go_wp2_with fail
   all_goals (go_ret; rw [← HWB.out]; exact ⟨rfl, HOB.out⟩)
theorem rForm : ∀ z, FormIH 17 z
 | 0 => fun t ht => by exfalso; obtain ⟨k, n, s, ks, vs⟩ := t; simp only [VT.mk.sizeOf_spec] at ht; omega
 | z + 1 => fun t ht G w cs d hv hd => by
  have ih := rForm z; have h : (t.kind = 0 ∨ t.kind = 1 ∨ t.kind = 3) ∨ (t.kind = 2 ∨ t.kind = 4) ∨ (t.kind = 7 ∨ t.kind = 8 ∨ 9 ≤ t.kind) ∨ (t.kind = 5 ∨ t.kind = 6) := by omega
  rcases h with h | h | h | h
  ·exact rForm_A z ih t ht h G w cs d hv hd
  ·exact rForm_B z ih t ht h G w cs d hv hd
  ·exact rForm_C z ih t ht h G w cs d hv hd
  ·exact rForm_D z ih t ht h G w cs d hv hd
variable {H : Type} {enc : TypeId × Value → H} {P : Program}
theorem slice_of_trod {w : World} {t e : TypeId} {fuel : Nat} {cs : List Value} {x : DataW H × List MemPlace} {size : Nat}
  (ht : P.underlying t = some (.slice e)) (hE : P.cellsOf e = size) (hs : 0 < size)
  (h : DataW.trod enc P w 0 (fun _ => true) true fuel t cs = some x) :
  ∃ a len cap, cs = [.slice a len cap] ∧ len ≤ cap ∧ cap ≤ maxLen ∧
   (0 < len → ∃ b off n, a = some ⟨b, off, none⟩ ∧ fuel = n + 1 ∧ b < w.heap.size ∧ ∀ i, i < len → ∃ cs' y, cs'.length = size ∧ w.rangeAt b (off + i * size) cs' ∧ DataW.trod enc P w 0 (fun _ => true) true n e cs' = some y) := by
 rcases DataW.trod_slice ht h with ⟨rfl, _⟩ | ⟨a, len, cap, elems, rest, n, hn, rfl, _, hb, hl, hm, hlen, hel, _, _⟩
 ·exact ⟨none, 0, 0, rfl, Nat.le_refl _, Nat.zero_le _, fun h => absurd h (by decide)⟩
 ·refine ⟨some a, len, cap, rfl, hl, hm, fun hp => ?_⟩
  have hget : ∀ i, i < len → ∃ cs' y, w.cells? 0 (a.add (i * P.cellsOf e)) (P.cellsOf e) = some cs' ∧ DataW.trod enc P w 0 (fun _ => true) true n e cs' = some y := by
   intro i hi; have := hel i hi; rw [List.getElem?_eq_getElem (by omega)] at this; obtain ⟨cs', h1, h2⟩ := Option.bind_eq_some_iff.1 this; exact ⟨cs', _, h1, h2⟩
  obtain ⟨b, off, spot⟩ := a; have hsp : spot = none := by
   obtain ⟨cs', _, h1, _⟩ := hget 0 hp; obtain ⟨hlen, hcell⟩ := (World.cells?_some h1).2; have hc0 := hcell 0 (by rw [hE]; exact hs); have hx : ∃ x, cs'[0]? = some x := ⟨cs'[0]'(by rw [hlen, hE]; exact hs), List.getElem?_eq_getElem _⟩; obtain ⟨x, hx⟩ := hx; rw [hx] at hc0; simpa [Addr.add] using World.cell?_spot hc0
  subst hsp; refine ⟨b, off, n, rfl, hn, ?_, fun i hi => ?_⟩
  ·obtain ⟨cs', _, h1, _⟩ := hget 0 hp; have hblk := World.cells?_block h1 (by rw [hE]; exact hs); rw [addr_add] at hblk; exact hblk
  ·obtain ⟨cs', y, h1, h2⟩ := hget i hi; obtain ⟨hlen, hcell⟩ := (World.cells?_some h1).2; rw [hE] at hlen hcell; refine ⟨cs', y, hlen, fun j v hv => ?_, h2⟩
   have hj : j < size := by have := (List.getElem?_eq_some_iff.1 hv).1; omega
   have := hcell j hj; rw [Go.Deep.add_add, addr_add, hv] at this; rw [← this, Nat.add_assoc]
theorem str_cellT {w : World} {n : Nat} {t : TypeId} {cs : List Value} {x : DataW H × List MemPlace} (ht : P.underlying t = some .string) (h : DataW.trod enc P w 0 (fun _ => true) true n t cs = some x) :
  ∃ s : List UInt8, cs = [strV s] ∧ s.length ≤ maxLen := by
 obtain ⟨s, rfl, _, hs⟩ := DataW.trod_string ht h; refine ⟨s.data.toList, by simp [strV], ?_⟩
 rw [Array.length_toList]; exact hs
theorem int_cell {w : World} {n : Nat} {t : TypeId} {k : IntKind} {cs : List Value} {x : DataW H × List MemPlace} (ht : P.underlying t = some (.int k)) (h : DataW.trod enc P w 0 (fun _ => true) true n t cs = some x) :
  ∃ z : Int, cs = [.int k z] ∧ k.min ≤ z ∧ z ≤ k.max := by
 obtain ⟨z, rfl, _, hz⟩ := DataW.trod_int ht h; refine ⟨z, rfl, ?_⟩
 simp [Lit.wf] at hz; exact hz
theorem texts_row {w : World} {b off : Nat} : ∀ (len : Nat), (∀ i, i < len → ∃ s : List UInt8, w.cell? ⟨b, off + i, none⟩ = some (strV s) ∧ s.length ≤ maxLen) → ∃ ks : List (List UInt8), ks.length = len ∧ w.rangeAt b off (ks.map strV) ∧ ∀ s ∈ ks, s.length ≤ maxLen
 | 0, _ => ⟨[], rfl, (fun j v hv => by cases hv), (fun s hs => by cases hs)⟩
 | len + 1, h => by
  obtain ⟨ks, h1, h2, h3⟩ := texts_row len (fun i hi => h i (by omega)); obtain ⟨s, h4, h5⟩ := h len (by omega); refine ⟨ks ++ [s], by simp [h1], fun j v hv => ?_, fun q hq => ?_⟩
  ·rw [List.map_append, List.getElem?_append] at hv
   split at hv
   ·exact h2 j v hv
   ·rename_i hj
    simp at hj; have hj2 : j = len := by
     have := (List.getElem?_eq_some_iff.1 hv).1; simp at this; omega
    subst hj2; simp [h1] at hv; subst hv; exact h4
  ·rcases List.mem_append.1 hq with hq | hq
   ·exact h3 q hq
   ·simp at hq; subst hq; exact h5
theorem vals_row {w : World} {G : Nat → Prop} {b : Nat} : ∀ (len off : Nat), (∀ i, i < len → ∃ cs, cs.length = 5 ∧ w.rangeAt b (off + i * 5) cs ∧ ∃ t, ValAt w G t cs) → ∃ vs : List VT, vs.length = len ∧ ValsAt w G vs b off
 | 0, _, _ => ⟨[], rfl, trivial⟩
 | len + 1, off, h => by
  obtain ⟨cs, h1, h2, t, h3⟩ := h 0 (by omega); rw [Nat.zero_mul, Nat.add_zero] at h2
  obtain ⟨vs, h4, h5⟩ := vals_row len (off + 5) (fun i hi => by
   have := h (i + 1) (by omega); rw [show off + (i + 1) * 5 = off + 5 + i * 5 from by omega] at this
   exact this)
  exact ⟨t :: vs, by simp [h4], ⟨cs, h1, h2, h3⟩, h5⟩
theorem list5 {α : Type} {cs : List α} (h : cs.length = 5) : ∃ a b c d e, cs = [a, b, c, d, e] := by
 match cs, h with
 | [a, b, c, d, e], _ => exact ⟨a, b, c, d, e, rfl⟩
theorem agg_of_cells {v : Value} {cs : List Value} (h : v.cells.toList = cs) (hl : cs.length ≠ 1) : v = .agg cs.toArray := by
 cases v with
 | agg a => simp [Value.cells] at h; subst h; simp
 | _ => simp [Value.cells] at h; subst h; simp at hl
theorem value_cells : Tryz.prog.cellsOf 35 = 5 := by kernel_rfl
theorem val_of_trod (w : World) : ∀ (fuel : Nat) (cs : List Value) (x : DataW H × List MemPlace), DataW.trod enc Tryz.prog w 0 (fun _ => true) true fuel 35 cs = some x → ∃ t, ValAt w (fun q => q < w.heap.size) t cs := by
 intro fuel
 induction fuel using Nat.strongRecOn with
 | _ fuel ih =>
  intro cs x hx; obtain ⟨xs, m, rfl, rfl, hl, hxl, hf⟩ := DataW.trod_struct Tryz.underlying35 hx; obtain ⟨e0, e1, e2, e3, e4, rfl⟩ := list5 (hl.trans value_cells); obtain ⟨y0, y1, y2, y3, y4, rfl⟩ := list5 (hxl.trans rfl); have f0 := field_at hf 0 5 0 1 rfl (by kernel_rfl); have f1 := field_at hf 1 2 1 1 rfl (by kernel_rfl); have f2 := field_at hf 2 9 2 1 rfl (by kernel_rfl); have f3 := field_at hf 3 32 3 1 rfl (by kernel_rfl); have f4 := field_at hf 4 33 4 1 rfl (by kernel_rfl); obtain ⟨k, g0, k0, k1⟩ := int_cell Tryz.underlying5 f0; obtain ⟨n, g1, n0, n1⟩ := int_cell Tryz.underlying2 f1; obtain ⟨s, g2, s1⟩ := str_cellT Tryz.underlying9 f2; obtain ⟨ak, lk, ck, g3, lk1, ck1, hK⟩ := slice_of_trod (size := 1) Tryz.underlying32 (by kernel_rfl) (by decide) f3; obtain ⟨av, lv, cv, g4, lv1, cv1, hV⟩ := slice_of_trod Tryz.underlying33 value_cells (by decide) f4; simp at g0 g1 g2 g3 g4; subst g0; subst g1; subst g2; subst g3; subst g4; have hks : ∃ ks : List (List UInt8), ks.length = lk ∧ (0 < lk → ∃ b off, ak = some ⟨b, off, none⟩ ∧ b < w.heap.size ∧ w.rangeAt b off (ks.map strV)) := by
   rcases Nat.eq_zero_or_pos lk with h0 | h0
   ·exact ⟨[], by rw [h0]; rfl, fun h => by omega⟩
   ·obtain ⟨b, off, n, rfl, hn, hb, hi⟩ := hK h0
    obtain ⟨ks, h1, h2, _⟩ := texts_row (w := w) (b := b) (off := off) lk (fun i hi' => by
     obtain ⟨cs', y, q1, q2, q3⟩ := hi i hi'; obtain ⟨s, rfl, q4⟩ := str_cellT Tryz.underlying9 q3; have := q2 0 _ rfl; rw [Nat.mul_one] at this
     exact ⟨s, this, q4⟩)
    exact ⟨ks, h1, fun _ => ⟨b, off, rfl, hb, h2⟩⟩
  have hvs : ∃ vs : List VT, vs.length = lv ∧ (0 < lv → ∃ b off, av = some ⟨b, off, none⟩ ∧ b < w.heap.size ∧ ValsAt w (fun q => q < w.heap.size) vs b off) := by
   rcases Nat.eq_zero_or_pos lv with h0 | h0
   ·exact ⟨[], by rw [h0]; rfl, fun h => by omega⟩
   ·obtain ⟨b, off, n, rfl, hn, hb, hi⟩ := hV h0
    obtain ⟨vs, h1, h2⟩ := vals_row (w := w) (G := fun q => q < w.heap.size) (b := b) lv off (fun i hi' => by
     obtain ⟨cs', y, q1, q2, q3⟩ := hi i hi'
     exact ⟨cs', q1, q2, ih n (by omega) cs' y q3⟩)
    exact ⟨vs, h1, fun _ => ⟨b, off, rfl, hb, h2⟩⟩
  obtain ⟨ks, rfl, hks⟩ := hks; obtain ⟨vs, rfl, hvs⟩ := hvs; simp [IntKind.min, IntKind.max, IntKind.signed, IntKind.bits] at k0 k1 n0 n1; refine ⟨.mk k.toNat n s ks vs, ?_⟩
  simp only [ValAt]; refine ⟨ak, ck, av, cv, by rw [Int.toNat_of_nonneg k0]; rfl, by omega, by omega, by unfold maxLen at s1; omega, ⟨lk1, by unfold maxLen at ck1; omega⟩, ⟨lv1, by unfold maxLen at cv1; omega⟩, fun hp => ?_, fun hp => ?_⟩
  ·obtain ⟨b, off, h1, h2, h3⟩ := hks hp; exact ⟨b, off, h1, h2, h2, h3⟩
  ·obtain ⟨b, off, h1, h2, h3⟩ := hvs hp; exact ⟨b, off, h1, h2, h2, h3⟩
theorem value_of_Trod {w : World} {v : Value} {d : DataW H} {p : List MemPlace} (h : DataW.Trod enc Tryz.prog w 0 (fun _ => true) true 35 v d p) :
  ∃ t cs, v = .agg cs.toArray ∧ ValAt w (fun q => q < w.heap.size) t cs := by
 obtain ⟨fuel, hf⟩ := h; obtain ⟨t, ht⟩ := val_of_trod w fuel _ _ hf; refine ⟨t, _, agg_of_cells rfl ?_, ht⟩
 obtain ⟨k, n, s, ks, vs⟩ := t; simp only [ValAt] at ht; obtain ⟨ak, ck, av, cv, e, _⟩ := ht; rw [e]; simp
end Go.Proofs.YtnkpoddbbdmipaaGreatDoor
