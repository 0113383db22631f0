/- columbarylaw03.WireSame: the walk. -/
import Derived.Test.YtoojnpafcdaflaaAwk
import Derived.Test.YtoojnpafcdaflaaRva
import Derived.Test.YtoojnpafcdaflaaLen
import Derived.Test.YtoojnpafcdaflaaReg
import Derived.Test.YtoojnpafcdaflaaTrv
namespace Go.Proofs.Ytoojnpafcdaflaa
open Go Go.RowKit
set_option linter.unusedVariables false
set_option linter.unusedSimpArgs false
set_option maxRecDepth 100000

/-- Two values laid in boxes of their own. -/
theorem boxes2 (w : World) (e0 e1 e2 e3 e4 g0 g1 g2 g3 g4 : Value) : ∃ wb, wb = (w.alloc (.cells #[e0, e1, e2, e3, e4] 35)).alloc (.cells #[g0, g1, g2, g3, g4] 35) ∧ Only (fun _ => False) w wb ∧
    ∀ w', Only (fun _ => False) wb w' → w'.rangeAt w.heap.size 0 [e0, e1, e2, e3, e4] ∧ w'.rangeAt (w.heap.size + 1) 0 [g0, g1, g2, g3, g4] := by
  refine ⟨_, rfl, ((Only.refl _ w).alloc _).alloc _, fun w' ho => ⟨?_, ?_⟩⟩
  · have h := heap_old (heap_new w (.cells #[e0, e1, e2, e3, e4] 35)) (.cells #[g0, g1, g2, g3, g4] 35)
    exact range_of_block (e := 35) (fr := (0, 0)) (by rw [ho.block _ (Array.getElem?_eq_some_iff.1 h).1 (fun h => h)]; exact h)
  · have h := heap_new (w.alloc (.cells #[e0, e1, e2, e3, e4] 35)) (.cells #[g0, g1, g2, g3, g4] 35)
    rw [World.size_alloc] at h
    exact range_of_block (e := 35) (fr := (0, 0)) (by rw [ho.block _ (Array.getElem?_eq_some_iff.1 h).1 (fun h => h)]; exact h)

set_option maxHeartbeats 8000000 in
theorem same0 (t u : VT) (G G' : Nat → Prop) (w : World) (cs ds : List Value) (hv : ValAt w G t cs) (hu : ValAt w G' u ds) :
    Calls Try.prog 4 #[.agg cs.toArray, .agg ds.toArray] w fun e w' => e = .returned (.bool true) ∧ Below w.heap.size w w' := by
  have hts := valAt_small t _ hv
  have hus := valAt_small u _ hu
  obtain ⟨k, n, s, ak, lk, ck, av, lv, cv, rfl⟩ := valAt_form hv
  obtain ⟨k2, n2, s2, bk, mk, dk, bv, mv, dv, rfl⟩ := valAt_form hu
  obtain ⟨wb, hwb, ob, hbx⟩ := boxes2 w (.int .u8 k) (.int .i64 n) (.string ⟨s.toArray⟩) (.slice ak lk ck) (.slice av lv cv) (.int .u8 k2) (.int .i64 n2) (.string ⟨s2.toArray⟩) (.slice bk mk dk) (.slice bv mv dv)
  have hV : ∀ w', Only (fun _ => False) wb w' → ValAt w' G t [.int .u8 k, .int .i64 n, .string ⟨s.toArray⟩, .slice ak lk ck, .slice av lv cv] := fun w' ho => valAt_only (S := fun _ => False) (ob.trans ho) (fun _ _ h => h) _ _ hv
  have hU : ∀ w', Only (fun _ => False) wb w' → ValAt w' G' u [.int .u8 k2, .int .i64 n2, .string ⟨s2.toArray⟩, .slice bk mk dk, .slice bv mv dv] := fun w' ho => valAt_only (S := fun _ => False) (ob.trans ho) (fun _ _ h => h) _ _ hu
  have HV := Lib.hid hV; have HU := Lib.hid hU; have HBX := Lib.hid hbx; have OB := Lib.hid ob; have HWB := Lib.hid hwb; have HTS := Lib.hid hts; have HUS := Lib.hid hus
  clear hV hU hbx ob hwb hts hus hv hu
  cases hg : greatV t with
  | true =>
    have HG := Lib.hid hg; clear hg
    go_enter Try.func4, Try.ntmps4
    go_wp2_with fail
    rw [← HWB.out]
    refine (awake_any _).mono ?_
    rintro e w1 ⟨rfl, o1⟩
    obtain ⟨c0, c1, c2, c3, c4⟩ := range5 (HBX.out w1 o1).1
    have hgr := rGreat t G w1 _ (HV.out w1 o1)
    rw [HG.out] at hgr
    have HGR := Lib.hid hgr; have O1 := Lib.hid o1; clear hgr o1
    go_wp2_with fail
    refine HGR.out.mono ?_
    rintro e w2 ⟨rfl, o2⟩
    have O2 := Lib.hid o2; clear o2 c0 c1 c2 c3 c4
    go_wp2_with fail
    refine (awake_any _).mono ?_
    rintro e w3 ⟨rfl, o3⟩
    have O3 := Lib.hid o3; clear o3
    go_wp2_with fail
    go_ret
    exact ⟨rfl, (((OB.out.trans O1.out).trans O2.out).trans O3.out).still⟩
  | false =>
  cases hg2 : greatV u with
  | true =>
    have HG := Lib.hid hg; have HG2 := Lib.hid hg2; clear hg hg2
    go_enter Try.func4, Try.ntmps4
    go_wp2_with fail
    rw [← HWB.out]
    refine (awake_any _).mono ?_
    rintro e w1 ⟨rfl, o1⟩
    obtain ⟨c0, c1, c2, c3, c4⟩ := range5 (HBX.out w1 o1).1
    have hgr := rGreat t G w1 _ (HV.out w1 o1)
    rw [HG.out] at hgr
    have HGR := Lib.hid hgr; have O1 := Lib.hid o1; clear hgr o1
    go_wp2_with fail
    refine HGR.out.mono ?_
    rintro e w2 ⟨rfl, o2⟩
    have O2 := Lib.hid (O1.out.trans o2); clear o2 c0 c1 c2 c3 c4
    obtain ⟨c0, c1, c2, c3, c4⟩ := range5 (HBX.out w2 O2.out).2
    have hgr := rGreat u G' w2 _ (HU.out w2 O2.out)
    rw [HG2.out] at hgr
    have HGR2 := Lib.hid hgr; clear hgr
    go_wp2_with fail
    refine HGR2.out.mono ?_
    rintro e w3 ⟨rfl, o3⟩
    have O3 := Lib.hid (O2.out.trans o3); clear o3 c0 c1 c2 c3 c4
    go_wp2_with fail
    refine (awake_any _).mono ?_
    rintro e w4 ⟨rfl, o4⟩
    have O4 := Lib.hid o4; clear o4
    go_wp2_with fail
    go_ret
    exact ⟨rfl, ((OB.out.trans O3.out).trans O4.out).still⟩
  | false =>
  cases hf : formV t 0 with
  | false =>
    have HG := Lib.hid hg; have HG2 := Lib.hid hg2; have HF := Lib.hid hf; clear hg hg2 hf
    go_enter Try.func4, Try.ntmps4
    go_wp2_with fail
    rw [← HWB.out]
    refine (awake_any _).mono ?_
    rintro e w1 ⟨rfl, o1⟩
    obtain ⟨c0, c1, c2, c3, c4⟩ := range5 (HBX.out w1 o1).1
    have hgr := rGreat t G w1 _ (HV.out w1 o1)
    rw [HG.out] at hgr
    have HGR := Lib.hid hgr; have O1 := Lib.hid o1; clear hgr o1
    go_wp2_with fail
    refine HGR.out.mono ?_
    rintro e w2 ⟨rfl, o2⟩
    have O2 := Lib.hid (O1.out.trans o2); clear o2 c0 c1 c2 c3 c4
    obtain ⟨c0, c1, c2, c3, c4⟩ := range5 (HBX.out w2 O2.out).2
    have hgr := rGreat u G' w2 _ (HU.out w2 O2.out)
    rw [HG2.out] at hgr
    have HGR2 := Lib.hid hgr; clear hgr
    go_wp2_with fail
    refine HGR2.out.mono ?_
    rintro e w3 ⟨rfl, o3⟩
    have O3 := Lib.hid (O2.out.trans o3); clear o3 c0 c1 c2 c3 c4
    obtain ⟨c0, c1, c2, c3, c4⟩ := range5 (HBX.out w3 O3.out).1
    have hgr : Calls Try.prog 24 #[.agg #[.int .u8 k, .int .i64 n, .string ⟨s.toArray⟩, .slice ak lk ck, .slice av lv cv], .int .i64 0] w3 _ := rForm _ t (Nat.le_refl _) G w3 _ 0 (HV.out w3 O3.out) (by omega)
    rw [HF.out] at hgr
    have HGR3 := Lib.hid hgr; clear hgr
    go_wp2_with fail
    refine HGR3.out.mono ?_
    rintro e w4 ⟨rfl, o4⟩
    have O4 := Lib.hid (O3.out.trans o4); clear o4 c0 c1 c2 c3 c4
    go_wp2_with fail
    refine (awake_any _).mono ?_
    rintro e w5 ⟨rfl, o5⟩
    have O5 := Lib.hid o5; clear o5
    go_wp2_with fail
    go_ret
    exact ⟨rfl, ((OB.out.trans O4.out).trans O5.out).still⟩
  | true =>
  have hlen := form_len HTS.out hg hf
  cases hf2 : formV u 0 with
  | false =>
    have HG := Lib.hid hg; have HG2 := Lib.hid hg2; have HF := Lib.hid hf; have HF2 := Lib.hid hf2; clear hg hg2 hf hf2 hlen
    go_enter Try.func4, Try.ntmps4
    go_wp2_with fail
    rw [← HWB.out]
    refine (awake_any _).mono ?_
    rintro e w1 ⟨rfl, o1⟩
    obtain ⟨c0, c1, c2, c3, c4⟩ := range5 (HBX.out w1 o1).1
    have hgr := rGreat t G w1 _ (HV.out w1 o1)
    rw [HG.out] at hgr
    have HGR := Lib.hid hgr; have O1 := Lib.hid o1; clear hgr o1
    go_wp2_with fail
    refine HGR.out.mono ?_
    rintro e w2 ⟨rfl, o2⟩
    have O2 := Lib.hid (O1.out.trans o2); clear o2 c0 c1 c2 c3 c4
    obtain ⟨c0, c1, c2, c3, c4⟩ := range5 (HBX.out w2 O2.out).2
    have hgr := rGreat u G' w2 _ (HU.out w2 O2.out)
    rw [HG2.out] at hgr
    have HGR2 := Lib.hid hgr; clear hgr
    go_wp2_with fail
    refine HGR2.out.mono ?_
    rintro e w3 ⟨rfl, o3⟩
    have O3 := Lib.hid (O2.out.trans o3); clear o3 c0 c1 c2 c3 c4
    obtain ⟨c0, c1, c2, c3, c4⟩ := range5 (HBX.out w3 O3.out).1
    have hgr : Calls Try.prog 24 #[.agg #[.int .u8 k, .int .i64 n, .string ⟨s.toArray⟩, .slice ak lk ck, .slice av lv cv], .int .i64 0] w3 _ := rForm _ t (Nat.le_refl _) G w3 _ 0 (HV.out w3 O3.out) (by omega)
    rw [HF.out] at hgr
    have HGR3 := Lib.hid hgr; clear hgr
    go_wp2_with fail
    refine HGR3.out.mono ?_
    rintro e w4 ⟨rfl, o4⟩
    have O4 := Lib.hid (O3.out.trans o4); clear o4 c0 c1 c2 c3 c4
    obtain ⟨c0, c1, c2, c3, c4⟩ := range5 (HBX.out w4 O4.out).2
    have hgr : Calls Try.prog 24 #[.agg #[.int .u8 k2, .int .i64 n2, .string ⟨s2.toArray⟩, .slice bk mk dk, .slice bv mv dv], .int .i64 0] w4 _ := rForm _ u (Nat.le_refl _) G' w4 _ 0 (HU.out w4 O4.out) (by omega)
    rw [HF2.out] at hgr
    have HGR4 := Lib.hid hgr; clear hgr
    go_wp2_with fail
    refine HGR4.out.mono ?_
    rintro e w5 ⟨rfl, o5⟩
    have O5 := Lib.hid (O4.out.trans o5); clear o5 c0 c1 c2 c3 c4
    go_wp2_with fail
    refine (awake_any _).mono ?_
    rintro e w6 ⟨rfl, o6⟩
    have O6 := Lib.hid o6; clear o6
    go_wp2_with fail
    go_ret
    exact ⟨rfl, ((OB.out.trans O5.out).trans O6.out).still⟩
  | true =>
    have hlen2 := form_len HUS.out hg2 hf2
    have hse := same_enc HTS.out HUS.out hf hf2
    have hgt := form_good t 0 hf
    have hgu := form_good u 0 hf2
    have HG := Lib.hid hg; have HG2 := Lib.hid hg2; have HF := Lib.hid hf; have HF2 := Lib.hid hf2; have HLEN := Lib.hid hlen; have HLEN2 := Lib.hid hlen2; have HSE := Lib.hid hse; have HGT := Lib.hid hgt; have HGU := Lib.hid hgu; clear hg hg2 hf hf2 hlen hlen2 hse hgt hgu
    go_enter Try.func4, Try.ntmps4
    go_wp2_with fail
    rw [← HWB.out]
    refine (awake_any _).mono ?_
    rintro e w1 ⟨rfl, o1⟩
    obtain ⟨c0, c1, c2, c3, c4⟩ := range5 (HBX.out w1 o1).1
    have hgr := rGreat t G w1 _ (HV.out w1 o1)
    rw [HG.out] at hgr
    have HGR := Lib.hid hgr; have O1 := Lib.hid o1; clear hgr o1
    go_wp2_with fail
    refine HGR.out.mono ?_
    rintro e w2 ⟨rfl, o2⟩
    have O2 := Lib.hid (O1.out.trans o2); clear o2 c0 c1 c2 c3 c4
    obtain ⟨c0, c1, c2, c3, c4⟩ := range5 (HBX.out w2 O2.out).2
    have hgr := rGreat u G' w2 _ (HU.out w2 O2.out)
    rw [HG2.out] at hgr
    have HGR2 := Lib.hid hgr; clear hgr
    go_wp2_with fail
    refine HGR2.out.mono ?_
    rintro e w3 ⟨rfl, o3⟩
    have O3 := Lib.hid (O2.out.trans o3); clear o3 c0 c1 c2 c3 c4
    obtain ⟨c0, c1, c2, c3, c4⟩ := range5 (HBX.out w3 O3.out).1
    have hgr : Calls Try.prog 24 #[.agg #[.int .u8 k, .int .i64 n, .string ⟨s.toArray⟩, .slice ak lk ck, .slice av lv cv], .int .i64 0] w3 _ := rForm _ t (Nat.le_refl _) G w3 _ 0 (HV.out w3 O3.out) (by omega)
    rw [HF.out] at hgr
    have HGR3 := Lib.hid hgr; clear hgr
    go_wp2_with fail
    refine HGR3.out.mono ?_
    rintro e w4 ⟨rfl, o4⟩
    have O4 := Lib.hid (O3.out.trans o4); clear o4 c0 c1 c2 c3 c4
    obtain ⟨c0, c1, c2, c3, c4⟩ := range5 (HBX.out w4 O4.out).2
    have hgr : Calls Try.prog 24 #[.agg #[.int .u8 k2, .int .i64 n2, .string ⟨s2.toArray⟩, .slice bk mk dk, .slice bv mv dv], .int .i64 0] w4 _ := rForm _ u (Nat.le_refl _) G' w4 _ 0 (HU.out w4 O4.out) (by omega)
    rw [HF2.out] at hgr
    have HGR4 := Lib.hid hgr; clear hgr
    go_wp2_with fail
    refine HGR4.out.mono ?_
    rintro e w5 ⟨rfl, o5⟩
    have O5 := Lib.hid ((O4.out.trans o5).drew); clear o5 c0 c1 c2 c3 c4
    go_wp2_with fail
    obtain ⟨sv, hsv⟩ : ∃ sv, sv = sameV t u := ⟨_, rfl⟩
    have hsv2 : ((encV t) == (encV u)) = sv := by rw [hsv, HSE.out]
    have hst := wSame _ t u (Nat.le_refl _) G G'
    rw [← hsv] at hst
    have hrf := wSame _ t t (Nat.le_refl _) G G
    rw [sameV_refl t] at hrf
    have HST := Lib.hid hst; have HRF := Lib.hid hrf; have HSV := Lib.hid hsv2; clear hst hrf hsv hsv2
    refine wp_region_steps 16 (by kernel_rfl) rfl (by kernel_rfl) [some 26, some 27, some 28, some 29, some 30, some 31, some 32, some 33, some 34, some 35, some 36, some 37, some 38, some 39, some 40, some 41] rfl rfl (fun _ => False) [(fun v _ => v = (.agg #[.int .u8 k, .int .i64 n, .string ⟨s.toArray⟩, .slice ak lk ck, .slice av lv cv])), (fun v _ => v = (.agg #[.int .u8 k2, .int .i64 n2, .string ⟨s2.toArray⟩, .slice bk mk dk, .slice bv mv dv])), (fun v _ => v = (.bool sv)), (fun v _ => v = (.agg #[.int .u8 k, .int .i64 n, .string ⟨s.toArray⟩, .slice ak lk ck, .slice av lv cv])), (fun v w => Bytes w v (encV t)), (fun v _ => v = (.string ⟨(encV t).toArray⟩)), (fun v _ => v = (.agg #[.int .u8 k2, .int .i64 n2, .string ⟨s2.toArray⟩, .slice bk mk dk, .slice bv mv dv])), (fun v w => Bytes w v (encV u)), (fun v _ => v = (.string ⟨(encV u).toArray⟩)), (fun v _ => v = (.bool sv)), (fun v _ => v = (.bool true)), (fun v _ => v = (.bool true)), (fun v _ => v = (.agg #[.int .u8 k, .int .i64 n, .string ⟨s.toArray⟩, .slice ak lk ck, .slice av lv cv])), (fun v _ => v = (.agg #[.int .u8 k, .int .i64 n, .string ⟨s.toArray⟩, .slice ak lk ck, .slice av lv cv])), (fun v _ => v = (.bool true)), (fun v _ => v = (.bool true))] rfl ⟨?_, ?_, ?_, ?_, ?_, ?_, ?_, ?_, ?_, ?_, ?_, ?_, ?_, ?_, ?_, ?_, trivial⟩ _ rfl ⟨?_, ?_, ?_, ?_, ?_, ?_, ?_, ?_, ?_, ?_, ?_, ?_, ?_, ?_, ?_, ?_, trivial⟩ ?_
    · exact Stable.is _ _
    · exact Stable.is _ _
    · exact Stable.is _ _
    · exact Stable.is _ _
    · exact (fun v w1 w2 h ho => h.still ho)
    · exact Stable.is _ _
    · exact Stable.is _ _
    · exact (fun v w1 w2 h ho => h.still ho)
    · exact Stable.is _ _
    · exact Stable.is _ _
    · exact Stable.is _ _
    · exact Stable.is _ _
    · exact Stable.is _ _
    · exact Stable.is _ _
    · exact Stable.is _ _
    · exact Stable.is _ _
    · intro x wx ox hN TT HTT
      clear hN
      unfold StepTo
      simp only [putAll, Act.put, List.setIfInBounds_toArray, List.set_cons_succ, List.set_cons_zero]
      obtain ⟨c0, c1, c2, c3, c4⟩ := range5 (HBX.out wx (O5.out.trans ox)).1
      go_wp2_with fail
      exact ⟨rfl, _, rfl, HTT.out _ _ (rfl) (Only.refl _ _)⟩
    · intro x wx ox hN TT HTT
      clear hN
      unfold StepTo
      simp only [putAll, Act.put, List.setIfInBounds_toArray, List.set_cons_succ, List.set_cons_zero]
      obtain ⟨c0, c1, c2, c3, c4⟩ := range5 (HBX.out wx (O5.out.trans ox)).2
      go_wp2_with fail
      exact ⟨rfl, _, rfl, HTT.out _ _ (rfl) (Only.refl _ _)⟩
    · intro x wx ox hN TT HTT
      have r26 : x 0 = (.agg #[.int .u8 k, .int .i64 n, .string ⟨s.toArray⟩, .slice ak lk ck, .slice av lv cv]) := hN.1 rfl
      have r27 : x 1 = (.agg #[.int .u8 k2, .int .i64 n2, .string ⟨s2.toArray⟩, .slice bk mk dk, .slice bv mv dv]) := hN.2.1 rfl
      clear hN
      unfold StepTo
      simp only [putAll, Act.put, List.setIfInBounds_toArray, List.set_cons_succ, List.set_cons_zero, r26, r27]
      clear r26 r27
      go_wp2_with fail
      refine (HST.out wx _ _ (HV.out wx (O5.out.trans ox)) (HU.out wx (O5.out.trans ox))).mono ?_
      rintro e w6 ⟨rfl, o6⟩
      go_wp2_with fail
      exact ⟨rfl, _, rfl, HTT.out _ _ (rfl) (o6)⟩
    · intro x wx ox hN TT HTT
      clear hN
      unfold StepTo
      simp only [putAll, Act.put, List.setIfInBounds_toArray, List.set_cons_succ, List.set_cons_zero]
      obtain ⟨c0, c1, c2, c3, c4⟩ := range5 (HBX.out wx (O5.out.trans ox)).1
      go_wp2_with fail
      exact ⟨rfl, _, rfl, HTT.out _ _ (rfl) (Only.refl _ _)⟩
    · intro x wx ox hN TT HTT
      have r29 : x 3 = (.agg #[.int .u8 k, .int .i64 n, .string ⟨s.toArray⟩, .slice ak lk ck, .slice av lv cv]) := hN.1 rfl
      have r28 : x 2 = (.bool sv) := hN.2.1 rfl
      clear hN
      unfold StepTo
      simp only [putAll, Act.put, List.setIfInBounds_toArray, List.set_cons_succ, List.set_cons_zero, r29, r28]
      clear r29 r28
      go_wp2_with fail
      refine (rValue _ t (Nat.le_refl _) G wx _ (HV.out wx (O5.out.trans ox)) HGT.out (by have := HLEN.out; omega)).mono ?_
      rintro e w6 ⟨v6, rfl, h6, o6⟩
      go_wp2_with fail
      exact ⟨rfl, _, rfl, HTT.out _ _ (h6.bytes) (o6)⟩
    · intro x wx ox hN TT HTT
      have r30 : (fun (v : Value) (w : World) => Bytes w v (encV t)) (x 4) wx := hN.1 rfl
      clear hN
      unfold StepTo
      simp only [putAll, Act.put, List.setIfInBounds_toArray, List.set_cons_succ, List.set_cons_zero]
      have hcv := r30.conv
      go_wp2_with fail
      exact ⟨rfl, _, rfl, HTT.out _ _ (rfl) (Only.refl _ _)⟩
    · intro x wx ox hN TT HTT
      clear hN
      unfold StepTo
      simp only [putAll, Act.put, List.setIfInBounds_toArray, List.set_cons_succ, List.set_cons_zero]
      obtain ⟨c0, c1, c2, c3, c4⟩ := range5 (HBX.out wx (O5.out.trans ox)).2
      go_wp2_with fail
      exact ⟨rfl, _, rfl, HTT.out _ _ (rfl) (Only.refl _ _)⟩
    · intro x wx ox hN TT HTT
      have r32 : x 6 = (.agg #[.int .u8 k2, .int .i64 n2, .string ⟨s2.toArray⟩, .slice bk mk dk, .slice bv mv dv]) := hN.1 rfl
      have r30 : (fun (v : Value) (w : World) => Bytes w v (encV t)) (x 4) wx := hN.2.1 rfl
      clear hN
      unfold StepTo
      simp only [putAll, Act.put, List.setIfInBounds_toArray, List.set_cons_succ, List.set_cons_zero, r32]
      clear r32
      go_wp2_with fail
      refine (rValue _ u (Nat.le_refl _) G' wx _ (HU.out wx (O5.out.trans ox)) HGU.out (by have := HLEN2.out; omega)).mono ?_
      rintro e w6 ⟨v6, rfl, h6, o6⟩
      go_wp2_with fail
      exact ⟨rfl, _, rfl, HTT.out _ _ (h6.bytes) (o6)⟩
    · intro x wx ox hN TT HTT
      have r33 : (fun (v : Value) (w : World) => Bytes w v (encV u)) (x 7) wx := hN.1 rfl
      clear hN
      unfold StepTo
      simp only [putAll, Act.put, List.setIfInBounds_toArray, List.set_cons_succ, List.set_cons_zero]
      have hcv := r33.conv
      go_wp2_with fail
      exact ⟨rfl, _, rfl, HTT.out _ _ (rfl) (Only.refl _ _)⟩
    · intro x wx ox hN TT HTT
      have r31 : x 5 = (.string ⟨(encV t).toArray⟩) := hN.1 rfl
      have r34 : x 8 = (.string ⟨(encV u).toArray⟩) := hN.2.1 rfl
      clear hN
      unfold StepTo
      simp only [putAll, Act.put, List.setIfInBounds_toArray, List.set_cons_succ, List.set_cons_zero, r31, r34]
      clear r31 r34
      have hsv := HSV.out
      go_wp2_with fail
      exact ⟨rfl, _, rfl, HTT.out _ _ (rfl) (Only.refl _ _)⟩
    · intro x wx ox hN TT HTT
      have r28 : x 2 = (.bool sv) := hN.1 rfl
      have r35 : x 9 = (.bool sv) := hN.2.1 rfl
      clear hN
      unfold StepTo
      simp only [putAll, Act.put, List.setIfInBounds_toArray, List.set_cons_succ, List.set_cons_zero, r28, r35]
      clear r28 r35
      go_wp2_with fail
      exact ⟨rfl, _, rfl, HTT.out _ _ (rfl) (Only.refl _ _)⟩
    · intro x wx ox hN TT HTT
      have r36 : x 10 = (.bool true) := hN.1 rfl
      have r33 : (fun (v : Value) (w : World) => Bytes w v (encV u)) (x 7) wx := hN.2.1 rfl
      clear hN
      unfold StepTo
      simp only [putAll, Act.put, List.setIfInBounds_toArray, List.set_cons_succ, List.set_cons_zero, r36]
      clear r36
      go_wp2_with fail
      exact ⟨rfl, _, rfl, HTT.out _ _ (rfl) (Only.refl _ _)⟩
    · intro x wx ox hN TT HTT
      have r37 : x 11 = (.bool true) := hN.1 rfl
      clear hN
      unfold StepTo
      simp only [putAll, Act.put, List.setIfInBounds_toArray, List.set_cons_succ, List.set_cons_zero, r37]
      clear r37
      obtain ⟨c0, c1, c2, c3, c4⟩ := range5 (HBX.out wx (O5.out.trans ox)).1
      go_wp2_with fail
      exact ⟨rfl, _, rfl, HTT.out _ _ (rfl) (Only.refl _ _)⟩
    · intro x wx ox hN TT HTT
      have r37 : x 11 = (.bool true) := hN.1 rfl
      clear hN
      unfold StepTo
      simp only [putAll, Act.put, List.setIfInBounds_toArray, List.set_cons_succ, List.set_cons_zero, r37]
      clear r37
      obtain ⟨c0, c1, c2, c3, c4⟩ := range5 (HBX.out wx (O5.out.trans ox)).1
      go_wp2_with fail
      exact ⟨rfl, _, rfl, HTT.out _ _ (rfl) (Only.refl _ _)⟩
    · intro x wx ox hN TT HTT
      have r38 : x 12 = (.agg #[.int .u8 k, .int .i64 n, .string ⟨s.toArray⟩, .slice ak lk ck, .slice av lv cv]) := hN.1 rfl
      have r39 : x 13 = (.agg #[.int .u8 k, .int .i64 n, .string ⟨s.toArray⟩, .slice ak lk ck, .slice av lv cv]) := hN.2.1 rfl
      have r37 : x 11 = (.bool true) := hN.2.2.1 rfl
      clear hN
      unfold StepTo
      simp only [putAll, Act.put, List.setIfInBounds_toArray, List.set_cons_succ, List.set_cons_zero, r38, r39, r37]
      clear r38 r39 r37
      go_wp2_with fail
      refine (HRF.out wx _ _ (HV.out wx (O5.out.trans ox)) (HV.out wx (O5.out.trans ox))).mono ?_
      rintro e w6 ⟨rfl, o6⟩
      go_wp2_with fail
      exact ⟨rfl, _, rfl, HTT.out _ _ (rfl) (o6)⟩
    · intro x wx ox hN TT HTT
      have r37 : x 11 = (.bool true) := hN.1 rfl
      have r40 : x 14 = (.bool true) := hN.2.1 rfl
      clear hN
      unfold StepTo
      simp only [putAll, Act.put, List.setIfInBounds_toArray, List.set_cons_succ, List.set_cons_zero, r37, r40]
      clear r37 r40
      go_wp2_with fail
      exact ⟨rfl, _, rfl, HTT.out _ _ (rfl) (Only.refl _ _)⟩
    · intro x wx ox hN
      have r26 : x 0 = (.agg #[.int .u8 k, .int .i64 n, .string ⟨s.toArray⟩, .slice ak lk ck, .slice av lv cv]) := hN.1
      have r27 : x 1 = (.agg #[.int .u8 k2, .int .i64 n2, .string ⟨s2.toArray⟩, .slice bk mk dk, .slice bv mv dv]) := hN.2.1
      have r28 : x 2 = (.bool sv) := hN.2.2.1
      have r29 : x 3 = (.agg #[.int .u8 k, .int .i64 n, .string ⟨s.toArray⟩, .slice ak lk ck, .slice av lv cv]) := hN.2.2.2.1
      have r30 : (fun (v : Value) (w : World) => Bytes w v (encV t)) (x 4) wx := hN.2.2.2.2.1
      have r31 : x 5 = (.string ⟨(encV t).toArray⟩) := hN.2.2.2.2.2.1
      have r32 : x 6 = (.agg #[.int .u8 k2, .int .i64 n2, .string ⟨s2.toArray⟩, .slice bk mk dk, .slice bv mv dv]) := hN.2.2.2.2.2.2.1
      have r33 : (fun (v : Value) (w : World) => Bytes w v (encV u)) (x 7) wx := hN.2.2.2.2.2.2.2.1
      have r34 : x 8 = (.string ⟨(encV u).toArray⟩) := hN.2.2.2.2.2.2.2.2.1
      have r35 : x 9 = (.bool sv) := hN.2.2.2.2.2.2.2.2.2.1
      have r36 : x 10 = (.bool true) := hN.2.2.2.2.2.2.2.2.2.2.1
      have r37 : x 11 = (.bool true) := hN.2.2.2.2.2.2.2.2.2.2.2.1
      have r38 : x 12 = (.agg #[.int .u8 k, .int .i64 n, .string ⟨s.toArray⟩, .slice ak lk ck, .slice av lv cv]) := hN.2.2.2.2.2.2.2.2.2.2.2.2.1
      have r39 : x 13 = (.agg #[.int .u8 k, .int .i64 n, .string ⟨s.toArray⟩, .slice ak lk ck, .slice av lv cv]) := hN.2.2.2.2.2.2.2.2.2.2.2.2.2.1
      have r40 : x 14 = (.bool true) := hN.2.2.2.2.2.2.2.2.2.2.2.2.2.2.1
      have r41 : x 15 = (.bool true) := hN.2.2.2.2.2.2.2.2.2.2.2.2.2.2.2.1
      clear hN
      simp only [putAll, Act.put, List.setIfInBounds_toArray, List.set_cons_succ, List.set_cons_zero, r26, r27, r28, r29, r31, r32, r34, r35, r36, r37, r38, r39, r40, r41]
      clear r26 r27 r28 r29 r31 r32 r34 r35 r36 r37 r38 r39 r40 r41
      go_wp2_with fail
      go_ret
      exact ⟨rfl, ((OB.out.trans O5.out).trans ox).still⟩
theorem same_walk (v0 v1 : Value) (w : World) {H : Type} {enc : TypeId × Value → H} {d0 d1 : DataW H} {p0 p1 : List MemPlace} {b0 b1 : Nat}
    (h0 : DataW.Trod enc Try.prog w 0 (fun _ => true) true 35 v0 d0 p0) (g0 : Value.okWide Try.prog w .any b0 35 v0) (h1 : DataW.Trod enc Try.prog w 0 (fun _ => true) true 35 v1 d1 p1) (g1 : Value.okWide Try.prog w .any b1 35 v1) :
    Calls Try.prog 4 #[v0, v1] w fun e w' => e = .returned (.bool true) ∧ Below w.heap.size w w' := by
  obtain ⟨t, cs, rfl, ht⟩ := value_of_Trod h0
  obtain ⟨u, ds, rfl, hu⟩ := value_of_Trod h1
  exact same0 t u _ _ w cs ds ht hu
end Go.Proofs.Ytoojnpafcdaflaa
