/- columbarylaw03.WireJoins: the walk. -/
import Derived.Test.YtoojnpafcdaflaaLCut
namespace Go.Proofs.Ytoojnpafcdaflaa
open Go Go.RowKit Go.WideShapes
set_option linter.unusedVariables false
set_option linter.unusedSimpArgs false
set_option maxRecDepth 100000

def encL : List VT → List UInt8
  | [] => []
  | v :: vs => encV v ++ encL vs
theorem encL_snoc : ∀ (vs : List VT) (i : Nat) (h : i < vs.length), encL (vs.take (i + 1)) = encL (vs.take i) ++ encV vs[i]
  | v :: vs, 0, _ => by simp [encL]
  | v :: vs, i + 1, h => by
    have ih := encL_snoc vs i (by simpa using h)
    simp only [List.take_succ_cons, encL, ih, List.getElem_cons_succ, List.append_assoc]
theorem encL_drop (vs : List VT) (i : Nat) (h : i < vs.length) : encL (vs.drop i) = encV vs[i] ++ encL (vs.drop (i + 1)) := by
  rw [List.drop_eq_getElem_cons h]; rfl
/-- Each of them is of the form, and not too great. -/
def AllGood (vs : List VT) : Prop := ∀ x ∈ vs, greatV x = false ∧ formV x 0 = true
theorem AllGood.len {vs : List VT} (h : AllGood vs) (hs : SmallVs vs) : (encL vs).length ≤ 900000 * vs.length := by
  induction vs with
  | nil => simp [encL]
  | cons v vs ih =>
    have h1 := h v List.mem_cons_self
    have h2 := form_len hs.1 h1.1 h1.2
    have h3 := ih (fun x hx => h x (List.mem_cons_of_mem _ hx)) hs.2
    simp only [encL, List.length_append, List.length_cons]
    omega
theorem smallVs_get : ∀ {vs : List VT}, SmallVs vs → ∀ (i : Nat) (h : i < vs.length), SmallV vs[i]
  | [], _, i, h => absurd h (by simp)
  | v :: vs, hg, 0, _ => hg.1
  | v :: vs, hg, i + 1, h => smallVs_get (vs := vs) hg.2 i (by simpa using h)
theorem smallVs_take : ∀ {vs : List VT} (n : Nat), SmallVs vs → SmallVs (vs.take n)
  | [], _, _ => by simp [SmallVs]
  | v :: vs, 0, _ => by simp [SmallVs]
  | v :: vs, n + 1, h => ⟨h.1, smallVs_take (vs := vs) n h.2⟩
theorem WS.alloc_new {w : World} : WS (fun q => q = w.heap.size) w.heap.size (w.alloc (.cells #[.slice none 0 0] 26)) [] (w.alloc (.cells #[.slice none 0 0] 26)) := WS.new (heap_new w _)

set_option maxHeartbeats 8000000 in
theorem joins0 (vs : List VT) (av : Option Addr) (cv : Nat) (w : World) (hcv : vs.length ≤ cv) (hcv2 : cv ≤ 9223372036854775807) (hv : ValuesAt w (fun q => q < w.heap.size) av vs) (hsm : SmallVs vs) :
    Calls Try.prog 8 #[.slice av vs.length cv] w fun e w' => e = .returned (.bool true) ∧ Below w.heap.size w w' := by
  obtain ⟨lv, hlv⟩ : ∃ lv, lv = vs.length := ⟨_, rfl⟩
  rw [← hlv] at hcv ⊢
  have HLV := Lib.hid hlv; have HV := Lib.hid hv; have HSM := Lib.hid hsm; clear hlv hv hsm
  have hl0 : (0 : Int) ≤ (lv : Int) := by omega
  by_cases h10 : 10 < lv
  · have t1 : decide ((10 : Int) < (lv : Int)) = true := by simp; omega
    go_enter Try.func8, Try.ntmps8
    go_wp2_with fail
    refine (awake_any _).mono ?_
    rintro e w1 ⟨rfl, o1⟩
    have O1 := Lib.hid o1; clear o1
    go_wp2_with fail
    refine (awake_any _).mono ?_
    rintro e w2 ⟨rfl, o2⟩
    have O2 := Lib.hid o2; clear o2
    go_wp2_with fail
    go_ret
    exact ⟨rfl, (O1.out.trans O2.out).still⟩
  have t1 : decide ((10 : Int) < (lv : Int)) = false := by simp; omega
  go_enter Try.func8, Try.ntmps8
  go_wp2_with fail
  refine (awake_any _).mono ?_
  rintro e w1 ⟨rfl, o1⟩
  have O1 := Lib.hid o1; clear o1
  go_upto_region 4 with (fail)
  have hws := WS.alloc_new (w := w1)
  have oA := O1.out.alloc (.cells #[.slice none 0 0] 26)
  have hs12 : w1.heap.size < (w1.alloc (.cells #[.slice none 0 0] 26)).heap.size := by simp
  generalize w1.alloc (.cells #[.slice none 0 0] 26) = w2 at *
  have hs01 := O1.out.size
  have HWS := Lib.hid hws; have OA := Lib.hid oA; have HS12 := Lib.hid hs12; have HS01 := Lib.hid hs01; clear hws oA hs12 hs01
  go_wp2_with fail
  go_loopw [4] (fun v wr => ∃ i : Nat, v = .int .i64 (i : Int) ∧ i ≤ lv ∧ Hid (WS (fun q => q = w1.heap.size) w1.heap.size w2 (encL (vs.take i)) wr) ∧ Hid (AllGood (vs.take i))) (fun v _ => lv - (intOf v).toNat)
  case atStart => exact ⟨0, by simp, by omega, Lib.hid (by simpa [encL] using HWS.out), Lib.hid (by intro x hx; simp at hx)⟩
  case round =>
    clear HWS
    obtain ⟨i, rfl, hi, HW, HA⟩ := hrel
    by_cases hlt : i < lv
    · have t3 : decide ((i : Int) < (lv : Int)) = true := by simpa using hlt
      have hi0 : (0 : Int) ≤ (i : Int) := by omega
      have hi1 : (i : Int) < (lv : Int) := by omega
      have hvi : i < vs.length := by rw [← HLV.out]; exact hlt
      obtain ⟨bv, offv, hav, hGv, hbv, hvals⟩ := HV.out (by rw [← HLV.out]; omega)
      subst hav
      obtain ⟨cs, hcl, hcr, hcv'⟩ := valsAt_get hvals i hvi
      obtain ⟨k', n', s', ak', lk', ck', av', lv', cv', rfl⟩ := valAt_form hcv'
      have oww : Only (fun q => q = w1.heap.size) w wr := (OA.out.mono (T := fun q => q = w1.heap.size) (fun _ _ h => h.elim)).trans HW.out.only
      have hrg := range_only hcr hbv oww (by have := HS01.out; omega)
      have hvr := valAt_only oww (fun q hq h => by have := HS01.out; omega) vs[i] _ hcv'
      have hsv := smallVs_get HSM.out i hvi
      have hsn := encL_snoc vs i hvi
      have htk : vs.take (i + 1) = vs.take i ++ [vs[i]] := List.take_succ_eq_append_getElem hvi
      have hln := HA.out.len (smallVs_take i HSM.out)
      have hlt2 : (vs.take i).length ≤ 10 := by rw [List.length_take]; omega
      generalize hx : vs[i] = x at *
      obtain ⟨d0, d1, d2, d3, d4⟩ := range5 hrg
      have hgr := rGreat x _ wr _ hvr
      have HRG := Lib.hid hrg; have HVR := Lib.hid hvr; have HSV := Lib.hid hsv; have HSN := Lib.hid hsn; have HTK := Lib.hid htk; have HLN := Lib.hid hln; have OWW := Lib.hid oww; have HBV := Lib.hid hbv; have HLT2 := Lib.hid hlt2
      clear hrg hvr hsv hsn htk hln oww hvals hcr hcv' hcl hbv hGv hlt2 hx
      cases hg : greatV x with
      | true =>
        rw [hg] at hgr
        have HGR := Lib.hid hgr; clear hgr hg
        go_wp2_with fail
        refine HGR.out.mono ?_
        rintro e w7 ⟨rfl, o7⟩
        have O7 := Lib.hid o7; clear o7 d0 d1 d2 d3 d4
        go_wp2_with fail
        go_ret
        exact ⟨rfl, (OWW.out.trans' O7.out (fun _ _ h => h.elim)).below (Nat.le_refl _) (fun q hq h => by have := HS01.out; omega)⟩
      | false =>
        rw [hg] at hgr
        have HGR := Lib.hid hgr; have HG := Lib.hid hg; clear hgr hg
        go_wp2_with fail
        refine HGR.out.mono ?_
        rintro e w7 ⟨rfl, o7⟩
        have hrg := range_only HRG.out (Nat.lt_of_lt_of_le HBV.out OWW.out.size) o7 (fun h => h)
        have hvr := valAt_only o7 (fun _ _ h => h) _ _ HVR.out
        clear d0 d1 d2 d3 d4
        obtain ⟨d0, d1, d2, d3, d4⟩ := range5 hrg
        have hfm : Calls Try.prog 24 #[.agg #[.int .u8 k', .int .i64 n', .string ⟨s'.toArray⟩, .slice ak' lk' ck', .slice av' lv' cv'], .int .i64 0] w7 _ := rForm _ x (Nat.le_refl _) _ w7 _ 0 hvr (by omega)
        cases hf : formV x 0 with
        | false =>
          rw [hf] at hfm
          have HFM := Lib.hid hfm; have O7 := Lib.hid o7; clear hfm hf o7 hrg hvr
          go_wp2_with fail
          refine HFM.out.mono ?_
          rintro e w8 ⟨rfl, o8⟩
          have O8 := Lib.hid (O7.out.trans o8); clear o8 d0 d1 d2 d3 d4
          go_wp2_with fail
          go_ret
          exact ⟨rfl, (OWW.out.trans' O8.out (fun _ _ h => h.elim)).below (Nat.le_refl _) (fun q hq h => by have := HS01.out; omega)⟩
        | true =>
          rw [hf] at hfm
          have hlen := form_len HSV.out HG.out hf
          have hgd := form_good x 0 hf
          have HFM := Lib.hid hfm; have O7 := Lib.hid o7; have HF := Lib.hid hf; have HLEN := Lib.hid hlen; have HGD := Lib.hid hgd; have HVR7 := Lib.hid hvr; have HRG7 := Lib.hid hrg; clear hfm hf o7 hrg hvr hlen hgd
          go_wp2_with fail
          refine HFM.out.mono ?_
          rintro e w8 ⟨rfl, o8⟩
          have hrg := range_only HRG7.out (Nat.lt_of_lt_of_le HBV.out (Nat.le_trans OWW.out.size O7.out.size)) o8 (fun h => h)
          have hvr := valAt_only o8 (fun _ _ h => h) _ _ HVR7.out
          clear d0 d1 d2 d3 d4
          obtain ⟨d0, d1, d2, d3, d4⟩ := range5 hrg
          have hw8 := (HW.out.still O7.out).still o8
          have hwv := wValue _ x (Nat.le_refl _) (fun q => q = w1.heap.size) (fun q => q < w.heap.size) w1.heap.size w2 (encL (vs.take i)) w8 _ hw8 hvr HGD.out (fun q hq => ⟨by have := HS01.out; have := HS12.out; omega, by have := HS01.out; omega⟩) (by have := HLEN.out; omega) (by have h1 := HLEN.out; have h2 := HLN.out; have h3 := HLT2.out; omega)
          have HWV := Lib.hid hwv; clear hwv hw8 hvr hrg o8
          go_wp2_with fail
          refine HWV.out.mono ?_
          rintro e w9 ⟨rfl, h9⟩
          have H9 := Lib.hid h9; clear h9 d0 d1 d2 d3 d4
          go_wp2_with fail
          go_roundw
          case rel => exact ⟨i + 1, by simp [go_sem], by omega, Lib.hid (by rw [HSN.out]; exact H9.out), Lib.hid (by rw [HTK.out]; intro y hy; rcases List.mem_append.1 hy with hy | hy; exact HA.out y hy; (simp at hy; subst hy; exact ⟨HG.out, HF.out⟩))⟩
          case measure => simp [intOf]; omega
    · have hke : i = lv := by omega
      subst hke
      have t3 : decide ((i : Int) < (i : Int)) = false := by simp
      have hall : AllGood vs := by have := HA.out; rw [List.take_of_length_le (by rw [← HLV.out]; omega)] at this; exact this
      have hws := HW.out
      rw [List.take_of_length_le (by rw [← HLV.out]; omega)] at hws
      have hlen : (encL vs).length ≤ 9000000 := by have h1 := hall.len HSM.out; have h2 := HLV.out; omega
      have hd := wDone_s _ _ _ _ wr hws (by omega)
      have HALL := Lib.hid hall; have HWS := Lib.hid hws; have HD := Lib.hid hd; have HLEN := Lib.hid hlen; clear hall hws hd hlen HW HA
      go_wp2_with fail
      refine HD.out.mono ?_
      rintro e w7 ⟨v7, rfl, h7, o7⟩
      have O7 := Lib.hid (HWS.out.only.trans' o7 (fun _ _ h => h.elim)); have HB7 := Lib.hid h7.bytes; have HG7 := Lib.hid (fun k hk => (h7.ge (k := k) hk).2); clear o7 h7
      go_wp2_with fail
      refine (read_new v7 (encL vs) w7 HB7.out (fun _ k hk => HG7.out k hk)).mono ?_
      rintro e w8 ⟨rfl, h8, o8⟩
      have O8 := Lib.hid ((O7.out.trans' o8 (fun _ _ h => h.elim)).mono (T := fun q => q = w1.heap.size ∨ q = w7.heap.size) (fun _ _ h => .inl h)); have H8 := Lib.hid h8; have hs27 := O7.out.size; have HS27 := Lib.hid hs27; clear o8 h8 hs27 O7
      go_wp2_with fail
      go_loopw [6] (fun v wr => ∃ j : Nat, v = .int .i64 (j : Int) ∧ j ≤ i ∧ Hid (ReaderAt wr w7.heap.size (encL (vs.drop j)) false) ∧ Hid (Only (fun q => q = w1.heap.size ∨ q = w7.heap.size) w2 wr)) (fun v _ => i - (intOf v).toNat)
      case atStart => exact ⟨0, by simp, by omega, Lib.hid (by simpa using H8.out), O8⟩
      case round =>
        clear H8 O8
        obtain ⟨j, rfl, hj, HR, HO⟩ := hrel
        by_cases hlt : j < i
        · have t4 : decide ((j : Int) < (i : Int)) = true := by simpa using hlt
          have hj0 : (0 : Int) ≤ (j : Int) := by omega
          have hj1 : (j : Int) < (i : Int) := by omega
          have hvi : j < vs.length := by rw [← HLV.out]; exact hlt
          obtain ⟨bv, offv, hav, hGv, hbv, hvals⟩ := HV.out (by rw [← HLV.out]; omega)
          subst hav
          obtain ⟨cs, hcl, hcr, hcv'⟩ := valsAt_get hvals j hvi
          obtain ⟨k', n', s', ak', lk', ck', av', lv', cv', rfl⟩ := valAt_form hcv'
          have oww : Only (fun q => q = w1.heap.size ∨ q = w7.heap.size) w wr.drew := ((OA.out.mono (T := fun q => q = w1.heap.size ∨ q = w7.heap.size) (fun _ _ h => h.elim)).trans HO.out).drew
          have hrg := range_only hcr hbv oww (by have := HS01.out; have := HS12.out; have := HS27.out; omega)
          have hvr := valAt_only oww (fun q hq h => by have := HS01.out; have := HS12.out; have := HS27.out; omega) vs[j] _ hcv'
          have hsv := smallVs_get HSM.out j hvi
          have hdr := encL_drop vs j hvi
          have hgd := HALL.out vs[j] (List.getElem_mem hvi)
          have hbne : bv ≠ w7.heap.size := by have := HS01.out; have := HS12.out; have := HS27.out; omega
          have hwne : w.heap.size ≤ w7.heap.size := by have := HS01.out; have := HS12.out; have := HS27.out; omega
          have hbvr : bv < wr.heap.size := Nat.lt_of_lt_of_le hbv oww.size
          generalize hx : vs[j] = xe at *
          have hne : (encL (vs.drop j)).isEmpty = false := by
            rw [hdr]
            have := encV_pos xe
            cases he : encV xe with
            | nil => rw [he] at this; simp at this
            | cons a l => rfl
          have hdec := decV_enc 24 0 rfl xe (encL (vs.drop (j + 1))) hsv hgd.2
          rw [← hdr] at hdec
          have hst := rSame _ xe xe (Nat.le_refl _) (fun q => wr.heap.size ≤ q) (fun q => q < w.heap.size)
          rw [sameV_refl xe] at hst
          have HRG := Lib.hid hrg; have HVR := Lib.hid hvr; have HNE := Lib.hid hne; have HDEC := Lib.hid hdec; have HST := Lib.hid hst; have HBNE := Lib.hid hbne; have HBVR := Lib.hid hbvr; have HWNE := Lib.hid hwne
          clear hrg hvr hne hdec hst hbne hbvr hwne hsv hdr hgd hcr hcv' hcl hbv hGv hvals oww hx
          go_upto_region 14 with (fail)
          refine wp_region_stepsM 11 (by kernel_rfl) rfl (by kernel_rfl) [some 51, some 52, some 53, some 54, some 55, some 56, some 57, some 58, some 59, some 60, some 61] rfl rfl 4 12 (fun q => q = w7.heap.size) (fun _ => False) [9, 10, 11] (by kernel_rfl) [0, 1, 2, 3] (by kernel_rfl) (by decide) (by decide) (.inl (by decide)) [(fun v _ => v = (.pointer (some ⟨w7.heap.size, 0, none⟩))), (fun v _ => v = (.bool false)), (fun v _ => v = (.bool false)), (fun v _ => v = (.pointer (some ⟨w7.heap.size, 0, none⟩))), (fun v w3 => ∃ (k2 : Nat) (n2 : Int) (s2 : List UInt8) (bk : Option Addr) (mk dk : Nat) (bv2 : Option Addr) (mv dv : Nat), v = .agg #[.int .u8 k2, .int .i64 n2, .string ⟨s2.toArray⟩, .slice bk mk dk, .slice bv2 mv dv] ∧ ValAt w3 (fun q => wr.heap.size ≤ q) xe [.int .u8 k2, .int .i64 n2, .string ⟨s2.toArray⟩, .slice bk mk dk, .slice bv2 mv dv] ∧ ReaderAt w3 w7.heap.size (encL (vs.drop (j + 1))) false), (fun v _ => v = (.slice (some ⟨bv, offv, none⟩) i cv)), (fun v _ => v = (.int .i64 j)), (fun v _ => v = (.pointer (some ⟨bv, offv + j * 5, none⟩))), (fun v _ => v = (.agg #[.int .u8 k', .int .i64 n', .string ⟨s'.toArray⟩, .slice ak' lk' ck', .slice av' lv' cv'])), (fun v _ => v = (.bool true)), (fun v _ => v = (.bool false))] rfl ⟨?_, ?_, ?_, ?_, ?_, ?_, ?_, ?_, ?_, ?_, ?_, trivial⟩ _ rfl ⟨?_, ?_, ?_, ?_, ?_, ?_, ?_, ?_, ?_, ?_, ?_, trivial⟩ ?_
          · exact Stable.is _ _
          · exact Stable.is _ _
          · exact Stable.is _ _
          · exact Stable.is _ _
          · intro v w1 w2 h ho
            have ho : Only (fun _ => False) w1 w2 := ho
            exact (by obtain ⟨k2, n2, s2, bk, mk, dk, bv2, mv, dv, e1, e2, e3⟩ := h; exact ⟨k2, n2, s2, bk, mk, dk, bv2, mv, dv, e1, valAt_only ho (fun _ _ h => h) _ _ e2, e3.still ho⟩)
          · exact Stable.is _ _
          · exact Stable.is _ _
          · exact Stable.is _ _
          · exact Stable.is _ _
          · exact Stable.is _ _
          · exact Stable.is _ _
          · intro x wx ox hN TT HTT
            have ox : Only (fun _ => False) _ wx := ox
            clear hN
            unfold StepTo
            simp only [putAll, Act.put, List.setIfInBounds_toArray, List.set_cons_succ, List.set_cons_zero]
            go_wp2_with fail
            exact ⟨rfl, _, rfl, HTT.out _ _ (rfl) (Only.refl _ _)⟩
          · intro x wx ox hN TT HTT
            have ox : Only (fun _ => False) _ wx := ox
            have r51 : x 0 = (.pointer (some ⟨w7.heap.size, 0, none⟩)) := hN.1 rfl
            clear hN
            unfold StepTo
            simp only [putAll, Act.put, List.setIfInBounds_toArray, List.set_cons_succ, List.set_cons_zero, r51]
            clear r51
            have hE := end_any w7.heap.size (encL (vs.drop j)) false wx (HR.out.still ((((Only.refl _ wr).drew)).trans ox))
            rw [HNE.out] at hE
            have HE := Lib.hid hE; clear hE
            go_wp2_with fail
            refine HE.out.mono ?_
            rintro e w6 ⟨rfl, rfl⟩
            go_wp2_with fail
            exact ⟨rfl, _, rfl, HTT.out _ _ (rfl) (Only.refl _ _)⟩
          · intro x wx ox hN TT HTT
            have ox : Only (fun _ => False) _ wx := ox
            have r52 : x 1 = (.bool false) := hN.1 rfl
            clear hN
            unfold StepTo
            simp only [putAll, Act.put, List.setIfInBounds_toArray, List.set_cons_succ, List.set_cons_zero, r52]
            clear r52
            go_wp2_with fail
            exact ⟨rfl, _, rfl, HTT.out _ _ (rfl) (Only.refl _ _)⟩
          · intro x wx ox hN TT HTT
            have ox : Only (fun _ => False) _ wx := ox
            have r53 : x 2 = (.bool false) := hN.1 rfl
            clear hN
            unfold StepTo
            simp only [putAll, Act.put, List.setIfInBounds_toArray, List.set_cons_succ, List.set_cons_zero, r53]
            clear r53
            go_wp2_with fail
            exact ⟨rfl, _, rfl, HTT.out _ _ (rfl) (Only.refl _ _)⟩
          · intro x wx ox hN TT HTT
            have ox : Only (fun _ => False) _ wx := ox
            have r54 : x 3 = (.pointer (some ⟨w7.heap.size, 0, none⟩)) := hN.1 rfl
            have r53 : x 2 = (.bool false) := hN.2.1 rfl
            clear hN
            unfold StepTo
            simp only [putAll, Act.put, List.setIfInBounds_toArray, List.set_cons_succ, List.set_cons_zero, r54, r53]
            clear r54 r53
            have hrv := rval_any w7.heap.size (encL (vs.drop j)) false wx (HR.out.still ((((Only.refl _ wr).drew)).trans ox))
            have hsl : wr.heap.size ≤ wx.heap.size := ox.size
            have HRV := Lib.hid hrv; have HSL := Lib.hid hsl; clear hrv hsl
            go_wp2_with fail
            refine HRV.out.mono ?_
            rintro e w9 ⟨t9, cs9, r9, β9, he9, hv9, h9, o9, k1, k2⟩
            have hβ : β9 = false := by
              cases β9 with
              | false => rfl
              | true => rcases (k2 rfl).1 with h | h; (cases h); (rw [HDEC.out] at h; cases h)
            subst hβ
            have hk := (k1 rfl).2
            rw [HDEC.out] at hk
            injection hk with hk
            injection hk with hk1 hk2
            subst hk1; subst hk2
            obtain ⟨k2', n2, s2, bk, mk, dk, bv2, mv, dv, rfl⟩ := valAt_form hv9
            subst he9
            have hv9' := valAt_weaken (G' := fun q => wr.heap.size ≤ q) (fun q _ h => Nat.le_trans HSL.out h) _ _ hv9
            have HV9 := Lib.hid hv9'; have H9 := Lib.hid h9; have O9 := Lib.hid o9; clear hv9 hv9' h9 o9 k1 k2
            go_wp2_with fail
            exact ⟨rfl, _, rfl, HTT.out _ _ (⟨k2', n2, s2, bk, mk, dk, bv2, mv, dv, rfl, HV9.out, H9.out⟩) (O9.out)⟩
          · intro x wx ox hN TT HTT
            have ox : Only (fun q => (fun q => q = w7.heap.size) q ∨ (fun _ => False) q) _ wx := ox
            have r53 : x 2 = (.bool false) := hN.1 rfl
            clear hN
            unfold StepTo
            simp only [putAll, Act.put, List.setIfInBounds_toArray, List.set_cons_succ, List.set_cons_zero, r53]
            clear r53
            go_wp2_with fail
            exact ⟨rfl, _, rfl, HTT.out _ _ (rfl) (Only.refl _ _)⟩
          · intro x wx ox hN TT HTT
            have ox : Only (fun q => (fun q => q = w7.heap.size) q ∨ (fun _ => False) q) _ wx := ox
            have r53 : x 2 = (.bool false) := hN.1 rfl
            clear hN
            unfold StepTo
            simp only [putAll, Act.put, List.setIfInBounds_toArray, List.set_cons_succ, List.set_cons_zero, r53]
            clear r53
            go_wp2_with fail
            exact ⟨rfl, _, rfl, HTT.out _ _ (rfl) (Only.refl _ _)⟩
          · intro x wx ox hN TT HTT
            have ox : Only (fun q => (fun q => q = w7.heap.size) q ∨ (fun _ => False) q) _ wx := ox
            have r56 : x 5 = (.slice (some ⟨bv, offv, none⟩) i cv) := hN.1 rfl
            have r57 : x 6 = (.int .i64 j) := hN.2.1 rfl
            have r53 : x 2 = (.bool false) := hN.2.2.1 rfl
            clear hN
            unfold StepTo
            simp only [putAll, Act.put, List.setIfInBounds_toArray, List.set_cons_succ, List.set_cons_zero, r56, r57, r53]
            clear r56 r57 r53
            go_wp2_with fail
            exact ⟨rfl, _, rfl, HTT.out _ _ (rfl) (Only.refl _ _)⟩
          · intro x wx ox hN TT HTT
            have ox : Only (fun q => (fun q => q = w7.heap.size) q ∨ (fun _ => False) q) _ wx := ox
            have r58 : x 7 = (.pointer (some ⟨bv, offv + j * 5, none⟩)) := hN.1 rfl
            have r53 : x 2 = (.bool false) := hN.2.1 rfl
            clear hN
            unfold StepTo
            simp only [putAll, Act.put, List.setIfInBounds_toArray, List.set_cons_succ, List.set_cons_zero, r58, r53]
            clear r58 r53
            obtain ⟨d0, d1, d2, d3, d4⟩ := range5 (range_only HRG.out HBVR.out ox (fun h => by rcases h with h | h; exact HBNE.out h; exact h))
            go_wp2_with fail
            exact ⟨rfl, _, rfl, HTT.out _ _ (rfl) (Only.refl _ _)⟩
          · intro x wx ox hN TT HTT
            have ox : Only (fun q => (fun q => q = w7.heap.size) q ∨ (fun _ => False) q) _ wx := ox
            have r55 : (fun (v : Value) (w3 : World) => ∃ (k2 : Nat) (n2 : Int) (s2 : List UInt8) (bk : Option Addr) (mk dk : Nat) (bv2 : Option Addr) (mv dv : Nat), v = .agg #[.int .u8 k2, .int .i64 n2, .string ⟨s2.toArray⟩, .slice bk mk dk, .slice bv2 mv dv] ∧ ValAt w3 (fun q => wr.heap.size ≤ q) xe [.int .u8 k2, .int .i64 n2, .string ⟨s2.toArray⟩, .slice bk mk dk, .slice bv2 mv dv] ∧ ReaderAt w3 w7.heap.size (encL (vs.drop (j + 1))) false) (x 4) wx := hN.1 rfl
            have r59 : x 8 = (.agg #[.int .u8 k', .int .i64 n', .string ⟨s'.toArray⟩, .slice ak' lk' ck', .slice av' lv' cv']) := hN.2.1 rfl
            have r53 : x 2 = (.bool false) := hN.2.2.2.1 rfl
            clear hN
            unfold StepTo
            simp only [putAll, Act.put, List.setIfInBounds_toArray, List.set_cons_succ, List.set_cons_zero, r59, r53]
            clear r59 r53
            obtain ⟨k2', n2, s2, bk, mk, dk, bv2, mv, dv, e1, e2, e3⟩ := r55
            simp only [e1]
            have hc := HST.out wx _ _ e2 (valAt_only ox (fun q hq h => by rcases h with h | h; (have h2 : q = w7.heap.size := h; have := HWNE.out; omega); exact h) _ _ HVR.out)
            have HC := Lib.hid hc; clear hc e1 e2 e3
            go_wp2_with fail
            refine HC.out.mono ?_
            rintro e w6 ⟨rfl, o6⟩
            go_wp2_with fail
            exact ⟨rfl, _, rfl, HTT.out _ _ (rfl) (o6)⟩
          · intro x wx ox hN TT HTT
            have ox : Only (fun q => (fun q => q = w7.heap.size) q ∨ (fun _ => False) q) _ wx := ox
            have r60 : x 9 = (.bool true) := hN.1 rfl
            have r53 : x 2 = (.bool false) := hN.2.1 rfl
            clear hN
            unfold StepTo
            simp only [putAll, Act.put, List.setIfInBounds_toArray, List.set_cons_succ, List.set_cons_zero, r60, r53]
            clear r60 r53
            go_wp2_with fail
            exact ⟨rfl, _, rfl, HTT.out _ _ (rfl) (Only.refl _ _)⟩
          intro xa wxa oxa hN
          have oxa : Only (fun q => (fun q => q = w7.heap.size) q ∨ (fun _ => False) q) _ wxa := oxa
          have r51 : xa 0 = (.pointer (some ⟨w7.heap.size, 0, none⟩)) := hN.1
          have r52 : xa 1 = (.bool false) := hN.2.1
          have r53 : xa 2 = (.bool false) := hN.2.2.1
          have r54 : xa 3 = (.pointer (some ⟨w7.heap.size, 0, none⟩)) := hN.2.2.2.1
          have r55 : (fun (v : Value) (w3 : World) => ∃ (k2 : Nat) (n2 : Int) (s2 : List UInt8) (bk : Option Addr) (mk dk : Nat) (bv2 : Option Addr) (mv dv : Nat), v = .agg #[.int .u8 k2, .int .i64 n2, .string ⟨s2.toArray⟩, .slice bk mk dk, .slice bv2 mv dv] ∧ ValAt w3 (fun q => wr.heap.size ≤ q) xe [.int .u8 k2, .int .i64 n2, .string ⟨s2.toArray⟩, .slice bk mk dk, .slice bv2 mv dv] ∧ ReaderAt w3 w7.heap.size (encL (vs.drop (j + 1))) false) (xa 4) wxa := hN.2.2.2.2.1
          have r56 : xa 5 = (.slice (some ⟨bv, offv, none⟩) i cv) := hN.2.2.2.2.2.1
          have r57 : xa 6 = (.int .i64 j) := hN.2.2.2.2.2.2.1
          have r58 : xa 7 = (.pointer (some ⟨bv, offv + j * 5, none⟩)) := hN.2.2.2.2.2.2.2.1
          have r59 : xa 8 = (.agg #[.int .u8 k', .int .i64 n', .string ⟨s'.toArray⟩, .slice ak' lk' ck', .slice av' lv' cv']) := hN.2.2.2.2.2.2.2.2.1
          have r60 : xa 9 = (.bool true) := hN.2.2.2.2.2.2.2.2.2.1
          have r61 : xa 10 = (.bool false) := hN.2.2.2.2.2.2.2.2.2.2.1
          clear hN
          simp only [putAll, Act.put, List.setIfInBounds_toArray, List.set_cons_succ, List.set_cons_zero, r51, r52, r53, r54, r56, r57, r58, r59, r60, r61]
          clear r51 r52 r53 r54 r56 r57 r58 r59 r60 r61
          obtain ⟨k2', n2, s2, bk, mk, dk, bv2, mv, dv, e1, e2, e3⟩ := r55
          have hO2 := HO.out.trans (((Only.refl (fun q => q = w1.heap.size ∨ q = w7.heap.size) wr).drew).trans (oxa.mono (fun q _ h => by rcases h with h | h; exact .inr h; exact h.elim)))
          have HR2 := Lib.hid e3; have HO2 := Lib.hid hO2; clear e1 e2 e3 hO2 oxa
          go_wp2_with fail
          go_roundw
          case rel => exact ⟨j + 1, by simp [go_sem], by omega, HR2, HO2⟩
          case measure => simp [intOf]; omega
        · have hke : j = i := by omega
          subst hke
          have t4 : decide ((j : Int) < (j : Int)) = false := by simp
          have hrd := HR.out
          rw [List.drop_eq_nil_of_le (by rw [← HLV.out]; omega)] at hrd
          have hE := end_any w7.heap.size (encL []) false wr hrd
          have hE : Calls Try.prog 35 #[.pointer (some ⟨w7.heap.size, 0, none⟩)] wr fun e w' => e = .returned (.bool true) ∧ wr = w' := hE
          have HE := Lib.hid hE; clear hE hrd
          go_wp2_with fail
          refine HE.out.mono ?_
          rintro e w6 ⟨rfl, rfl⟩
          go_wp2_with fail
          go_ret
          exact ⟨rfl, (OA.out.trans' HO.out (T := fun q => q = w1.heap.size ∨ q = w7.heap.size) (fun q hq h => by have := HS01.out; have := HS12.out; have := HS27.out; omega)).still⟩
theorem values_of_Trod {H : Type} {enc : TypeId × Value → H} {w : World} {v : Value} {d : DataW H} {p : List MemPlace} {b0 : Nat} (h : DataW.Trod enc Try.prog w 0 (fun _ => true) true 33 v d p) (g : Value.okWide Try.prog w .any b0 33 v) :
    ∃ (vs : List VT) (av : Option Addr) (cv : Nat), v = .slice av vs.length cv ∧ vs.length ≤ cv ∧ cv ≤ 9223372036854775807 ∧ (0 < vs.length → ∃ b off, av = some ⟨b, off, none⟩ ∧ b < w.heap.size ∧ b < w.heap.size ∧ ValsAt w (fun q => q < w.heap.size) vs b off) ∧ SmallVs vs := by
  obtain ⟨a0, len0, cap0, rfl⟩ := okWide_slice Try.underlying33 g
  obtain ⟨fuel, hf⟩ := h
  obtain ⟨av, lv, cv, e, lv1, cv1, hV⟩ := slice_of_trod Try.underlying33 value_cells (by decide) hf
  simp [Value.cells] at e
  obtain ⟨rfl, rfl, rfl⟩ := e
  have hvs : ∃ vs : List VT, vs.length = len0 ∧ (0 < len0 → ∃ b off, a0 = some ⟨b, off, none⟩ ∧ b < w.heap.size ∧ ValsAt w (fun q => q < w.heap.size) vs b off) := by
    rcases Nat.eq_zero_or_pos len0 with h0 | h0
    · exact ⟨[], by rw [h0]; rfl, fun h => by omega⟩
    · obtain ⟨b, off, n, rfl, hn, hb, hi⟩ := hV h0
      obtain ⟨vs, h1, h2⟩ := vals_row (w := w) (G := fun q => q < w.heap.size) (b := b) len0 off (fun i hi' => by
        obtain ⟨cs', y, q1, q2, q3⟩ := hi i hi'
        exact ⟨cs', q1, q2, val_of_trod w n cs' y q3⟩)
      exact ⟨vs, h1, fun _ => ⟨b, off, rfl, hb, h2⟩⟩
  obtain ⟨vs, rfl, hvs⟩ := hvs
  refine ⟨vs, a0, cap0, rfl, lv1, by unfold maxLen at cv1; omega, fun hp => ?_, ?_⟩
  · obtain ⟨b, off, h1, h2, h3⟩ := hvs hp
    exact ⟨b, off, h1, h2, h2, h3⟩
  · rcases Nat.eq_zero_or_pos vs.length with h0 | h0
    · rw [List.eq_nil_of_length_eq_zero h0]; trivial
    · obtain ⟨b, off, _, _, h3⟩ := hvs h0
      exact valsAt_small vs b off h3
theorem joins_walk (v0 : Value) (w : World) {H : Type} {enc : TypeId × Value → H} {d0 : DataW H} {p0 : List MemPlace} {b0 : Nat}
    (h0 : DataW.Trod enc Try.prog w 0 (fun _ => true) true 33 v0 d0 p0) (g0 : Value.okWide Try.prog w .any b0 33 v0) :
    Calls Try.prog 8 #[v0] w fun e w' => e = .returned (.bool true) ∧ Below w.heap.size w w' := by
  obtain ⟨vs, av, cv, rfl, h1, h2, h3, h4⟩ := values_of_Trod h0 g0
  exact joins0 vs av cv w h1 h2 h3 h4
end Go.Proofs.Ytoojnpafcdaflaa
