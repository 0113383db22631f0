/- columbarylaw03.WireValues: the walk. -/
import Derived.Test.YtoojnpafcdaflaaLSame
import Derived.Test.YtoojnpafcdaflaaRvl
import Derived.Test.YtoojnpafcdaflaaFrwZ
import Derived.Test.YtoojnpafcdaflaaDcc
namespace Go.Proofs.Ytoojnpafcdaflaa
open Go Go.RowKit
set_option linter.unusedVariables false
set_option linter.unusedSimpArgs false
set_option maxRecDepth 100000

/-- A value laid in a box of its own. -/
theorem boxes1 (w : World) (e0 e1 e2 e3 e4 : Value) : ∃ wb, wb = w.alloc (.cells #[e0, e1, e2, e3, e4] 35) ∧ Only (fun _ => False) w wb ∧
    ∀ (S : Nat → Prop) w', Only S wb w' → ¬ S w.heap.size → w'.rangeAt w.heap.size 0 [e0, e1, e2, e3, e4] := by
  refine ⟨_, rfl, (Only.refl _ w).alloc _, fun S w' ho hS => ?_⟩
  have h := heap_new w (.cells #[e0, e1, e2, e3, e4] 35)
  exact range_of_block (e := 35) (fr := (0, 0)) (by rw [ho.block _ (Array.getElem?_eq_some_iff.1 h).1 hS]; exact h)
set_option maxHeartbeats 8000000 in
theorem vals0 (t : VT) (w : World) (cs : List Value) (hv : ValAt w (fun q => q < w.heap.size) t cs) :
    Calls Try.prog 11 #[.agg cs.toArray] w fun e w' => e = .returned (.bool true) ∧ Below w.heap.size w w' := by
  have hts := valAt_small t _ hv
  obtain ⟨k, n, s, ak, lk, ck, av, lv, cv, rfl⟩ := valAt_form hv
  obtain ⟨wb, hwb, ob, hbx⟩ := boxes1 w (.int .u8 k) (.int .i64 n) (.string ⟨s.toArray⟩) (.slice ak lk ck) (.slice av lv cv)
  have hbx0 := fun w' ho => hbx (fun _ => False) w' ho (fun h => h)
  have hV : ∀ w', Only (fun _ => False) wb w' → ValAt w' (fun q => q < w.heap.size) t [.int .u8 k, .int .i64 n, .string ⟨s.toArray⟩, .slice ak lk ck, .slice av lv cv] := fun w' ho => valAt_only (S := fun _ => False) (ob.trans ho) (fun _ _ h => h) _ _ hv
  have HV := Lib.hid hV; have HBX := Lib.hid hbx0; have OB := Lib.hid ob; have HWB := Lib.hid hwb; have HTS := Lib.hid hts
  clear hV hbx hbx0 ob hwb hts hv
  cases hg : greatV t with
  | true =>
    have HG := Lib.hid hg; clear hg
    go_enter Try.func11, Try.ntmps11
    go_wp2_with fail
    rw [← HWB.out]
    refine (awake_any _).mono ?_
    rintro e w1 ⟨rfl, o1⟩
    obtain ⟨c0, c1, c2, c3, c4⟩ := range5 (HBX.out w1 o1)
    have hgr := rGreat t _ w1 _ (HV.out w1 o1)
    rw [HG.out] at hgr
    have HGR := Lib.hid hgr; have O1 := Lib.hid o1; clear hgr o1
    go_wp2_with fail
    refine HGR.out.mono ?_
    rintro e w2 ⟨rfl, o2⟩
    have O2 := Lib.hid o2; clear o2 c0 c1 c2 c3 c4
    go_wp2_with fail
    refine (awake_any _).mono ?_
    rintro e w3 ⟨rfl, o3⟩
    have O3 := Lib.hid o3; clear o3
    go_wp2_with fail
    go_ret
    exact ⟨rfl, (((OB.out.trans O1.out).trans O2.out).trans O3.out).still⟩
  | false =>
    have HG := Lib.hid hg
    obtain ⟨fm, hfm⟩ : ∃ fm, fm = formV t 0 := ⟨_, rfl⟩
    have hgood : fm = true → (encV t).length ≤ 900000 ∧ GoodV t := fun h => by rw [hfm] at h; exact ⟨form_len HTS.out hg h, form_good t 0 h⟩
    have HFM := Lib.hid hfm; have HGOOD := Lib.hid hgood; clear hg hfm hgood
    go_enter Try.func11, Try.ntmps11
    go_wp2_with fail
    rw [← HWB.out]
    refine (awake_any _).mono ?_
    rintro e w1 ⟨rfl, o1⟩
    obtain ⟨c0, c1, c2, c3, c4⟩ := range5 (HBX.out w1 o1)
    have hgr := rGreat t _ w1 _ (HV.out w1 o1)
    rw [HG.out] at hgr
    have HGR := Lib.hid hgr; have O1 := Lib.hid o1; clear hgr o1
    go_wp2_with fail
    refine HGR.out.mono ?_
    rintro e w2 ⟨rfl, o2⟩
    have O2 := Lib.hid (O1.out.trans o2).drew; clear o2 c0 c1 c2 c3 c4
    go_upto_region 3 with (fail)
    refine wp_region_steps 4 (by kernel_rfl) rfl (by kernel_rfl) [some 14, some 15, some 16, some 17] rfl rfl (fun _ => False) [(fun v _ => v = (.agg #[.int .u8 k, .int .i64 n, .string ⟨s.toArray⟩, .slice ak lk ck, .slice av lv cv])), (fun v _ => v = (.bool fm)), (fun v _ => v = (.agg #[.int .u8 k, .int .i64 n, .string ⟨s.toArray⟩, .slice ak lk ck, .slice av lv cv])), (fun v _ => v = (.bool fm))] rfl ⟨?_, ?_, ?_, ?_, trivial⟩ _ rfl ⟨?_, ?_, ?_, ?_, trivial⟩ ?_
    · exact Stable.is _ _
    · exact Stable.is _ _
    · exact Stable.is _ _
    · exact Stable.is _ _
    · intro x wx ox hN TT HTT
      clear hN
      unfold StepTo
      simp only [putAll, Act.put, List.setIfInBounds_toArray, List.set_cons_succ, List.set_cons_zero]
      obtain ⟨c0, c1, c2, c3, c4⟩ := range5 (HBX.out wx (O2.out.trans ox))
      go_wp2_with fail
      exact ⟨rfl, _, rfl, HTT.out _ _ (rfl) (Only.refl _ _)⟩
    · intro x wx ox hN TT HTT
      have r14 : x 0 = (.agg #[.int .u8 k, .int .i64 n, .string ⟨s.toArray⟩, .slice ak lk ck, .slice av lv cv]) := hN.1 rfl
      clear hN
      unfold StepTo
      simp only [putAll, Act.put, List.setIfInBounds_toArray, List.set_cons_succ, List.set_cons_zero, r14]
      clear r14
      have hc := wForm t _ wx _ (HV.out wx (O2.out.trans ox))
      rw [← HFM.out] at hc
      have HC := Lib.hid hc; clear hc
      go_wp2_with fail
      refine HC.out.mono ?_
      rintro e w6 ⟨rfl, o6⟩
      go_wp2_with fail
      exact ⟨rfl, _, rfl, HTT.out _ _ (rfl) (o6)⟩
    · intro x wx ox hN TT HTT
      clear hN
      unfold StepTo
      simp only [putAll, Act.put, List.setIfInBounds_toArray, List.set_cons_succ, List.set_cons_zero]
      obtain ⟨c0, c1, c2, c3, c4⟩ := range5 (HBX.out wx (O2.out.trans ox))
      go_wp2_with fail
      exact ⟨rfl, _, rfl, HTT.out _ _ (rfl) (Only.refl _ _)⟩
    · intro x wx ox hN TT HTT
      have r16 : x 2 = (.agg #[.int .u8 k, .int .i64 n, .string ⟨s.toArray⟩, .slice ak lk ck, .slice av lv cv]) := hN.1 rfl
      have r15 : x 1 = (.bool fm) := hN.2.1 rfl
      clear hN
      unfold StepTo
      simp only [putAll, Act.put, List.setIfInBounds_toArray, List.set_cons_succ, List.set_cons_zero, r16, r15]
      clear r16 r15
      have hc : Calls Try.prog 24 #[.agg #[.int .u8 k, .int .i64 n, .string ⟨s.toArray⟩, .slice ak lk ck, .slice av lv cv], .int .i64 0] wx _ := rForm _ t (Nat.le_refl _) _ wx _ 0 (HV.out wx (O2.out.trans ox)) (by omega)
      rw [← HFM.out] at hc
      have HC := Lib.hid hc; clear hc
      go_wp2_with fail
      refine HC.out.mono ?_
      rintro e w6 ⟨rfl, o6⟩
      go_wp2_with fail
      exact ⟨rfl, _, rfl, HTT.out _ _ (rfl) (o6)⟩
    intro xa wxa oxa hN
    have r14 : xa 0 = (.agg #[.int .u8 k, .int .i64 n, .string ⟨s.toArray⟩, .slice ak lk ck, .slice av lv cv]) := hN.1
    have r15 : xa 1 = (.bool fm) := hN.2.1
    have r16 : xa 2 = (.agg #[.int .u8 k, .int .i64 n, .string ⟨s.toArray⟩, .slice ak lk ck, .slice av lv cv]) := hN.2.2.1
    have r17 : xa 3 = (.bool fm) := hN.2.2.2.1
    clear hN
    simp only [putAll, Act.put, List.setIfInBounds_toArray, List.set_cons_succ, List.set_cons_zero, r14, r15, r16, r17]
    clear r14 r15 r16 r17
    have OA := Lib.hid (O2.out.trans oxa); clear oxa
    obtain ⟨c0, c1, c2, c3, c4⟩ := range5 (HBX.out wxa OA.out)
    have hc : Calls Try.prog 24 #[.agg #[.int .u8 k, .int .i64 n, .string ⟨s.toArray⟩, .slice ak lk ck, .slice av lv cv], .int .i64 0] wxa _ := rForm _ t (Nat.le_refl _) _ wxa _ 0 (HV.out wxa OA.out) (by omega)
    rw [← HFM.out] at hc
    have HC := Lib.hid hc; clear hc
    cases fm with
    | false =>
      go_wp2_with fail
      refine HC.out.mono ?_
      rintro e w4 ⟨rfl, o4⟩
      have O4 := Lib.hid (OA.out.trans o4); clear o4 c0 c1 c2 c3 c4
      go_wp2_with fail
      go_ret
      exact ⟨rfl, (OB.out.trans O4.out).still⟩
    | true =>
      obtain ⟨hlen, hgd⟩ := HGOOD.out rfl
      have hlen0 : (encV t).length ≤ 900000 := hlen
      have HLEN := Lib.hid hlen; have HGD := Lib.hid hgd; clear hlen hgd hlen0
      go_wp2_with fail
      refine HC.out.mono ?_
      rintro e w4 ⟨rfl, o4⟩
      have O4 := Lib.hid (OA.out.trans o4); clear o4 c0 c1 c2 c3 c4
      go_upto_region 8 with (fail)
      have hA := heap_new w4 (.cells #[.slice none 0 0] 26)
      have oA := O4.out.alloc (.cells #[.slice none 0 0] 26)
      generalize hw5 : w4.alloc (.cells #[.slice none 0 0] 26) = w5 at *
      have hs4 : w.heap.size < w4.heap.size := by
        have h1 : w.heap.size < wb.heap.size := by rw [HWB.out]; simp
        exact Nat.lt_of_lt_of_le h1 O4.out.size
      have hs5 : w4.heap.size < w5.heap.size := by rw [← hw5]; simp
      have hv5 := HV.out w5 oA
      have hwv := wValue _ t (Nat.le_refl _) (fun q => q = w4.heap.size) (fun q => q < w.heap.size) w4.heap.size w5 [] w5 _ (WS.new hA) hv5 HGD.out (fun q hq => ⟨by omega, by omega⟩) (by have := HLEN.out; omega) (by have := HLEN.out; simp; omega)
      rw [List.nil_append] at hwv
      obtain ⟨c0, c1, c2, c3, c4⟩ := range5 (HBX.out w5 oA)
      have HWV := Lib.hid hwv; have O5 := Lib.hid oA; have HS := Lib.hid hs4; have HS5 := Lib.hid hs5; clear hwv oA hA hv5 hw5 hs4 hs5
      go_wp2_with fail
      refine HWV.out.mono ?_
      rintro e w6 ⟨rfl, h6⟩
      have hd := wDone_s _ _ _ _ w6 h6 (by have := HLEN.out; omega)
      have o6 : Only (fun _ => False) wb w6 ∨ True := .inr trivial
      have o6 : Only (fun q => q = w4.heap.size) w5 w6 := h6.only
      have HD := Lib.hid hd; have O6 := Lib.hid o6; clear hd o6 h6 c0 c1 c2 c3 c4
      go_wp2_with fail
      refine HD.out.mono ?_
      rintro e w7 ⟨v7, rfl, h7, o7⟩
      have O7 := Lib.hid (O6.out.trans' o7 (fun _ _ h => h.elim)); have HB7 := Lib.hid h7.bytes; have HG7 := Lib.hid (fun k hk => (h7.ge (k := k) hk).2); clear o7 h7
      go_wp2_with fail
      refine (read_new v7 (encV t) w7 HB7.out (fun _ k hk => HG7.out k hk)).mono ?_
      rintro e w8 ⟨rfl, h8, o8⟩
      have HB8 := Lib.hid (HB7.out.still o8); have O8 := Lib.hid (O7.out.trans' o8 (fun _ _ h => h.elim)); have H8 := Lib.hid h8; have hs78 := o8.size; have HS78 := Lib.hid hs78; clear o8 h8 hs78
      go_wp2_with fail
      refine (rval_any w7.heap.size (encV t) false w8 H8.out).mono ?_
      rintro e w9 ⟨t9, cs9, r9, β9, he9, hv9, h9, o9, k1, k2⟩
      have hdec := decV_enc 24 0 rfl t [] HTS.out HFM.out.symm
      rw [List.append_nil] at hdec
      have hβ : β9 = false := by
        cases β9 with
        | false => rfl
        | true => rcases (k2 rfl).1 with h | h; (cases h); (rw [hdec] at h; cases h)
      subst hβ
      have hk := (k1 rfl).2
      rw [hdec] at hk
      injection hk with hk
      injection hk with hk1 hk2
      subst hk1; subst hk2
      obtain ⟨k2', n2, s2, bk, mk, dk, bv, mv, dv, rfl⟩ := valAt_form hv9
      subst he9
      have hz := zero_V
      have hb9 : Bytes w9 v7 (encV t) := HB8.out.only o9 (fun hp q hq e => by have h1 := HG7.out q hq; omega)
      have o59 : Only (fun q => q = w4.heap.size ∨ q = w7.heap.size) w5 w9 := (O8.out.mono (fun _ _ h => .inl h)).trans' o9 (fun _ _ h => .inr h)
      have hob : Only (fun _ => False) wb w5 := O5.out
      have hsz : w5.heap.size ≤ w7.heap.size := O7.out.size
      have H9 := Lib.hid h9; have HV9 := Lib.hid hv9; have HB9 := Lib.hid hb9; have O59 := Lib.hid o59; have HSZ := Lib.hid hsz; clear h9 hv9 hb9 o59 hob hsz k1 k2 hdec o9
      go_upto_region 11 with (fail)
      have hu := heap_new w9 (.cells #[.int .u8 k2', .int .i64 n2, .string ⟨s2.toArray⟩, .slice bk mk dk, .slice bv mv dv] 35)
      have oo := (Only.refl (fun _ => False) w9).alloc (.cells #[.int .u8 k2', .int .i64 n2, .string ⟨s2.toArray⟩, .slice bk mk dk, .slice bv mv dv] 35)
      clear hz
      generalize w9.alloc (.cells #[.int .u8 k2', .int .i64 n2, .string ⟨s2.toArray⟩, .slice bk mk dk, .slice bv mv dv] 35) = w10 at *
      have hU10 : ∀ w', Only (fun _ => False) w10 w' → w'.rangeAt w9.heap.size 0 [.int .u8 k2', .int .i64 n2, .string ⟨s2.toArray⟩, .slice bk mk dk, .slice bv mv dv] ∧ ValAt w' (fun q => w8.heap.size ≤ q) t [.int .u8 k2', .int .i64 n2, .string ⟨s2.toArray⟩, .slice bk mk dk, .slice bv mv dv] ∧ ReaderAt w' w7.heap.size [] false ∧ Bytes w' v7 (encV t) := fun w' ho =>
        ⟨range_of_block (e := 35) (fr := (0, 0)) (by rw [ho.block _ (Array.getElem?_eq_some_iff.1 hu).1 (fun h => h)]; exact hu), valAt_only (S := fun _ => False) (oo.trans ho) (fun _ _ h => h) _ _ HV9.out, H9.out.still (oo.trans ho), HB9.out.still (oo.trans ho)⟩
      have hT10 : ∀ w', Only (fun _ => False) w10 w' → w'.rangeAt w.heap.size 0 [.int .u8 k, .int .i64 n, .string ⟨s.toArray⟩, .slice ak lk ck, .slice av lv cv] ∧ ValAt w' (fun q => q < w.heap.size) t [.int .u8 k, .int .i64 n, .string ⟨s.toArray⟩, .slice ak lk ck, .slice av lv cv] := fun w' ho => by
        have o5' : Only (fun q => q = w4.heap.size ∨ q = w7.heap.size) w5 w' := (O59.out.trans' oo (fun _ _ h => h.elim)).trans' ho (fun _ _ h => h.elim)
        have hsw : w.heap.size < w4.heap.size := HS.out
        have h7 := HSZ.out; have h5 := HS5.out
        refine ⟨range_only (HBX.out w5 O5.out) (by omega) o5' (by omega), valAt_only o5' (fun q hq h => by omega) _ _ (HV.out w5 O5.out)⟩
      have hall : Only (fun _ => False) w w10 := ((OB.out.trans O5.out).trans' O59.out (fun q hq h => by have := HSZ.out; have := HS.out; have := HS5.out; omega)).trans oo
      have hst := rSame _ t t (Nat.le_refl _) (fun q => w8.heap.size ≤ q) (fun q => q < w.heap.size)
      have hsw := wSame _ t t (Nat.le_refl _) (fun q => w8.heap.size ≤ q) (fun q => q < w.heap.size)
      rw [sameV_refl t] at hst hsw
      obtain ⟨a7, c7, hv7⟩ : ∃ a7 c7, v7 = .slice a7 (encV t).length c7 := by obtain ⟨a, c, e, _⟩ := HB9.out; exact ⟨a, c, e⟩
      subst hv7
      have HU10 := Lib.hid hU10; have HT10 := Lib.hid hT10; have HALL := Lib.hid hall; have HST := Lib.hid hst; have HSW := Lib.hid hsw; clear hU10 hT10 hall hst hsw hu oo
      refine wp_region_steps 20 (by kernel_rfl) rfl (by kernel_rfl) [some 32, some 33, some 34, some 35, some 36, some 37, some 38, some 39, some 40, some 41, some 42, some 43, some 44, some 45, some 46, some 47, some 48, some 49, some 50, some 51] rfl rfl (fun _ => False) [(fun v _ => v = (.slice a7 (encV t).length c7)), (fun v _ => v = (.string ⟨(encV t).toArray⟩)), (fun v _ => v = (.agg #[.int .u8 k, .int .i64 n, .string ⟨s.toArray⟩, .slice ak lk ck, .slice av lv cv])), (fun v w1 => Bytes w1 v (encV t)), (fun v _ => v = (.string ⟨(encV t).toArray⟩)), (fun v _ => v = (.bool true)), (fun v _ => v = (.bool true)), (fun v _ => v = (.pointer (some ⟨w7.heap.size, 0, none⟩))), (fun v _ => v = (.bool true)), (fun v _ => v = (.bool true)), (fun v _ => v = (.bool true)), (fun v _ => v = (.agg #[.int .u8 k2', .int .i64 n2, .string ⟨s2.toArray⟩, .slice bk mk dk, .slice bv mv dv])), (fun v _ => v = (.agg #[.int .u8 k, .int .i64 n, .string ⟨s.toArray⟩, .slice ak lk ck, .slice av lv cv])), (fun v _ => v = (.bool true)), (fun v _ => v = (.bool true)), (fun v _ => v = (.bool true)), (fun v _ => v = (.agg #[.int .u8 k2', .int .i64 n2, .string ⟨s2.toArray⟩, .slice bk mk dk, .slice bv mv dv])), (fun v _ => v = (.agg #[.int .u8 k, .int .i64 n, .string ⟨s.toArray⟩, .slice ak lk ck, .slice av lv cv])), (fun v _ => v = (.bool true)), (fun v _ => v = (.bool true))] rfl ⟨?_, ?_, ?_, ?_, ?_, ?_, ?_, ?_, ?_, ?_, ?_, ?_, ?_, ?_, ?_, ?_, ?_, ?_, ?_, ?_, trivial⟩ _ rfl ⟨?_, ?_, ?_, ?_, ?_, ?_, ?_, ?_, ?_, ?_, ?_, ?_, ?_, ?_, ?_, ?_, ?_, ?_, ?_, ?_, trivial⟩ ?_
      · exact Stable.is _ _
      · exact Stable.is _ _
      · exact Stable.is _ _
      · exact (fun v w1 w2 h ho => h.still ho)
      · exact Stable.is _ _
      · exact Stable.is _ _
      · exact Stable.is _ _
      · exact Stable.is _ _
      · exact Stable.is _ _
      · exact Stable.is _ _
      · exact Stable.is _ _
      · exact Stable.is _ _
      · exact Stable.is _ _
      · exact Stable.is _ _
      · exact Stable.is _ _
      · exact Stable.is _ _
      · exact Stable.is _ _
      · exact Stable.is _ _
      · exact Stable.is _ _
      · exact Stable.is _ _
      · intro x wx ox hN TT HTT
        clear hN
        unfold StepTo
        simp only [putAll, Act.put, List.setIfInBounds_toArray, List.set_cons_succ, List.set_cons_zero]
        go_wp2_with fail
        exact ⟨rfl, _, rfl, HTT.out _ _ (rfl) (Only.refl _ _)⟩
      · intro x wx ox hN TT HTT
        have r32 : x 0 = (.slice a7 (encV t).length c7) := hN.1 rfl
        clear hN
        unfold StepTo
        simp only [putAll, Act.put, List.setIfInBounds_toArray, List.set_cons_succ, List.set_cons_zero, r32]
        clear r32
        have hcv := (HU10.out wx ((((Only.refl _ w10).drew)).trans ox)).2.2.2.conv
        go_wp2_with fail
        exact ⟨rfl, _, rfl, HTT.out _ _ (rfl) (Only.refl _ _)⟩
      · intro x wx ox hN TT HTT
        clear hN
        unfold StepTo
        simp only [putAll, Act.put, List.setIfInBounds_toArray, List.set_cons_succ, List.set_cons_zero]
        obtain ⟨c0, c1, c2, c3, c4⟩ := range5 (HT10.out wx ((((Only.refl _ w10).drew)).trans ox)).1
        go_wp2_with fail
        exact ⟨rfl, _, rfl, HTT.out _ _ (rfl) (Only.refl _ _)⟩
      · intro x wx ox hN TT HTT
        have r34 : x 2 = (.agg #[.int .u8 k, .int .i64 n, .string ⟨s.toArray⟩, .slice ak lk ck, .slice av lv cv]) := hN.1 rfl
        clear hN
        unfold StepTo
        simp only [putAll, Act.put, List.setIfInBounds_toArray, List.set_cons_succ, List.set_cons_zero, r34]
        clear r34
        go_wp2_with fail
        refine (rValue _ t (Nat.le_refl _) _ wx _ (HT10.out wx ((((Only.refl _ w10).drew)).trans ox)).2 HGD.out (by have := HLEN.out; omega)).mono ?_
        rintro e w6 ⟨v6, rfl, h6, o6⟩
        go_wp2_with fail
        exact ⟨rfl, _, rfl, HTT.out _ _ (h6.bytes) (o6)⟩
      · intro x wx ox hN TT HTT
        have r35 : (fun (v : Value) (w1 : World) => Bytes w1 v (encV t)) (x 3) wx := hN.1 rfl
        clear hN
        unfold StepTo
        simp only [putAll, Act.put, List.setIfInBounds_toArray, List.set_cons_succ, List.set_cons_zero]
        have hcv := r35.conv
        go_wp2_with fail
        exact ⟨rfl, _, rfl, HTT.out _ _ (rfl) (Only.refl _ _)⟩
      · intro x wx ox hN TT HTT
        have r33 : x 1 = (.string ⟨(encV t).toArray⟩) := hN.1 rfl
        have r36 : x 4 = (.string ⟨(encV t).toArray⟩) := hN.2.1 rfl
        clear hN
        unfold StepTo
        simp only [putAll, Act.put, List.setIfInBounds_toArray, List.set_cons_succ, List.set_cons_zero, r33, r36]
        clear r33 r36
        go_wp2_with fail
        exact ⟨rfl, _, rfl, HTT.out _ _ (rfl) (Only.refl _ _)⟩
      · intro x wx ox hN TT HTT
        have r37 : x 5 = (.bool true) := hN.1 rfl
        have r35 : (fun (v : Value) (w1 : World) => Bytes w1 v (encV t)) (x 3) wx := hN.2.1 rfl
        clear hN
        unfold StepTo
        simp only [putAll, Act.put, List.setIfInBounds_toArray, List.set_cons_succ, List.set_cons_zero, r37]
        clear r37
        go_wp2_with fail
        exact ⟨rfl, _, rfl, HTT.out _ _ (rfl) (Only.refl _ _)⟩
      · intro x wx ox hN TT HTT
        have r38 : x 6 = (.bool true) := hN.1 rfl
        clear hN
        unfold StepTo
        simp only [putAll, Act.put, List.setIfInBounds_toArray, List.set_cons_succ, List.set_cons_zero, r38]
        clear r38
        go_wp2_with fail
        exact ⟨rfl, _, rfl, HTT.out _ _ (rfl) (Only.refl _ _)⟩
      · intro x wx ox hN TT HTT
        have r39 : x 7 = (.pointer (some ⟨w7.heap.size, 0, none⟩)) := hN.1 rfl
        have r38 : x 6 = (.bool true) := hN.2.1 rfl
        clear hN
        unfold StepTo
        simp only [putAll, Act.put, List.setIfInBounds_toArray, List.set_cons_succ, List.set_cons_zero, r39, r38]
        clear r39 r38
        have hE := end_any w7.heap.size [] false wx (HU10.out wx ((((Only.refl _ w10).drew)).trans ox)).2.2.1
        have HE := Lib.hid hE; clear hE
        go_wp2_with fail
        refine HE.out.mono ?_
        rintro e w6 ⟨rfl, rfl⟩
        go_wp2_with fail
        exact ⟨rfl, _, rfl, HTT.out _ _ (rfl) (Only.refl _ _)⟩
      · intro x wx ox hN TT HTT
        have r38 : x 6 = (.bool true) := hN.1 rfl
        have r40 : x 8 = (.bool true) := hN.2.1 rfl
        clear hN
        unfold StepTo
        simp only [putAll, Act.put, List.setIfInBounds_toArray, List.set_cons_succ, List.set_cons_zero, r38, r40]
        clear r38 r40
        go_wp2_with fail
        exact ⟨rfl, _, rfl, HTT.out _ _ (rfl) (Only.refl _ _)⟩
      · intro x wx ox hN TT HTT
        have r41 : x 9 = (.bool true) := hN.1 rfl
        have r40 : x 8 = (.bool true) := hN.2.1 rfl
        clear hN
        unfold StepTo
        simp only [putAll, Act.put, List.setIfInBounds_toArray, List.set_cons_succ, List.set_cons_zero, r41, r40]
        clear r41 r40
        go_wp2_with fail
        exact ⟨rfl, _, rfl, HTT.out _ _ (rfl) (Only.refl _ _)⟩
      · intro x wx ox hN TT HTT
        have r42 : x 10 = (.bool true) := hN.1 rfl
        clear hN
        unfold StepTo
        simp only [putAll, Act.put, List.setIfInBounds_toArray, List.set_cons_succ, List.set_cons_zero, r42]
        clear r42
        obtain ⟨c0, c1, c2, c3, c4⟩ := range5 (HU10.out wx ((((Only.refl _ w10).drew)).trans ox)).1
        go_wp2_with fail
        exact ⟨rfl, _, rfl, HTT.out _ _ (rfl) (Only.refl _ _)⟩
      · intro x wx ox hN TT HTT
        have r42 : x 10 = (.bool true) := hN.1 rfl
        clear hN
        unfold StepTo
        simp only [putAll, Act.put, List.setIfInBounds_toArray, List.set_cons_succ, List.set_cons_zero, r42]
        clear r42
        obtain ⟨c0, c1, c2, c3, c4⟩ := range5 (HT10.out wx ((((Only.refl _ w10).drew)).trans ox)).1
        go_wp2_with fail
        exact ⟨rfl, _, rfl, HTT.out _ _ (rfl) (Only.refl _ _)⟩
      · intro x wx ox hN TT HTT
        have r43 : x 11 = (.agg #[.int .u8 k2', .int .i64 n2, .string ⟨s2.toArray⟩, .slice bk mk dk, .slice bv mv dv]) := hN.1 rfl
        have r44 : x 12 = (.agg #[.int .u8 k, .int .i64 n, .string ⟨s.toArray⟩, .slice ak lk ck, .slice av lv cv]) := hN.2.1 rfl
        have r42 : x 10 = (.bool true) := hN.2.2.1 rfl
        clear hN
        unfold StepTo
        simp only [putAll, Act.put, List.setIfInBounds_toArray, List.set_cons_succ, List.set_cons_zero, r43, r44, r42]
        clear r43 r44 r42
        go_wp2_with fail
        refine (HST.out wx _ _ (HU10.out wx ((((Only.refl _ w10).drew)).trans ox)).2.1 (HT10.out wx ((((Only.refl _ w10).drew)).trans ox)).2).mono ?_
        rintro e w6 ⟨rfl, o6⟩
        go_wp2_with fail
        exact ⟨rfl, _, rfl, HTT.out _ _ (rfl) (o6)⟩
      · intro x wx ox hN TT HTT
        have r42 : x 10 = (.bool true) := hN.1 rfl
        have r45 : x 13 = (.bool true) := hN.2.1 rfl
        clear hN
        unfold StepTo
        simp only [putAll, Act.put, List.setIfInBounds_toArray, List.set_cons_succ, List.set_cons_zero, r42, r45]
        clear r42 r45
        go_wp2_with fail
        exact ⟨rfl, _, rfl, HTT.out _ _ (rfl) (Only.refl _ _)⟩
      · intro x wx ox hN TT HTT
        have r46 : x 14 = (.bool true) := hN.1 rfl
        have r45 : x 13 = (.bool true) := hN.2.1 rfl
        clear hN
        unfold StepTo
        simp only [putAll, Act.put, List.setIfInBounds_toArray, List.set_cons_succ, List.set_cons_zero, r46, r45]
        clear r46 r45
        go_wp2_with fail
        exact ⟨rfl, _, rfl, HTT.out _ _ (rfl) (Only.refl _ _)⟩
      · intro x wx ox hN TT HTT
        have r47 : x 15 = (.bool true) := hN.1 rfl
        clear hN
        unfold StepTo
        simp only [putAll, Act.put, List.setIfInBounds_toArray, List.set_cons_succ, List.set_cons_zero, r47]
        clear r47
        obtain ⟨c0, c1, c2, c3, c4⟩ := range5 (HU10.out wx ((((Only.refl _ w10).drew)).trans ox)).1
        go_wp2_with fail
        exact ⟨rfl, _, rfl, HTT.out _ _ (rfl) (Only.refl _ _)⟩
      · intro x wx ox hN TT HTT
        have r47 : x 15 = (.bool true) := hN.1 rfl
        clear hN
        unfold StepTo
        simp only [putAll, Act.put, List.setIfInBounds_toArray, List.set_cons_succ, List.set_cons_zero, r47]
        clear r47
        obtain ⟨c0, c1, c2, c3, c4⟩ := range5 (HT10.out wx ((((Only.refl _ w10).drew)).trans ox)).1
        go_wp2_with fail
        exact ⟨rfl, _, rfl, HTT.out _ _ (rfl) (Only.refl _ _)⟩
      · intro x wx ox hN TT HTT
        have r48 : x 16 = (.agg #[.int .u8 k2', .int .i64 n2, .string ⟨s2.toArray⟩, .slice bk mk dk, .slice bv mv dv]) := hN.1 rfl
        have r49 : x 17 = (.agg #[.int .u8 k, .int .i64 n, .string ⟨s.toArray⟩, .slice ak lk ck, .slice av lv cv]) := hN.2.1 rfl
        have r47 : x 15 = (.bool true) := hN.2.2.1 rfl
        clear hN
        unfold StepTo
        simp only [putAll, Act.put, List.setIfInBounds_toArray, List.set_cons_succ, List.set_cons_zero, r48, r49, r47]
        clear r48 r49 r47
        go_wp2_with fail
        refine (HSW.out wx _ _ (HU10.out wx ((((Only.refl _ w10).drew)).trans ox)).2.1 (HT10.out wx ((((Only.refl _ w10).drew)).trans ox)).2).mono ?_
        rintro e w6 ⟨rfl, o6⟩
        go_wp2_with fail
        exact ⟨rfl, _, rfl, HTT.out _ _ (rfl) (o6)⟩
      · intro x wx ox hN TT HTT
        have r47 : x 15 = (.bool true) := hN.1 rfl
        have r50 : x 18 = (.bool true) := hN.2.1 rfl
        clear hN
        unfold StepTo
        simp only [putAll, Act.put, List.setIfInBounds_toArray, List.set_cons_succ, List.set_cons_zero, r47, r50]
        clear r47 r50
        go_wp2_with fail
        exact ⟨rfl, _, rfl, HTT.out _ _ (rfl) (Only.refl _ _)⟩
      · intro x wx ox hN
        have r32 : x 0 = (.slice a7 (encV t).length c7) := hN.1
        have r33 : x 1 = (.string ⟨(encV t).toArray⟩) := hN.2.1
        have r34 : x 2 = (.agg #[.int .u8 k, .int .i64 n, .string ⟨s.toArray⟩, .slice ak lk ck, .slice av lv cv]) := hN.2.2.1
        have r35 : (fun (v : Value) (w1 : World) => Bytes w1 v (encV t)) (x 3) wx := hN.2.2.2.1
        have r36 : x 4 = (.string ⟨(encV t).toArray⟩) := hN.2.2.2.2.1
        have r37 : x 5 = (.bool true) := hN.2.2.2.2.2.1
        have r38 : x 6 = (.bool true) := hN.2.2.2.2.2.2.1
        have r39 : x 7 = (.pointer (some ⟨w7.heap.size, 0, none⟩)) := hN.2.2.2.2.2.2.2.1
        have r40 : x 8 = (.bool true) := hN.2.2.2.2.2.2.2.2.1
        have r41 : x 9 = (.bool true) := hN.2.2.2.2.2.2.2.2.2.1
        have r42 : x 10 = (.bool true) := hN.2.2.2.2.2.2.2.2.2.2.1
        have r43 : x 11 = (.agg #[.int .u8 k2', .int .i64 n2, .string ⟨s2.toArray⟩, .slice bk mk dk, .slice bv mv dv]) := hN.2.2.2.2.2.2.2.2.2.2.2.1
        have r44 : x 12 = (.agg #[.int .u8 k, .int .i64 n, .string ⟨s.toArray⟩, .slice ak lk ck, .slice av lv cv]) := hN.2.2.2.2.2.2.2.2.2.2.2.2.1
        have r45 : x 13 = (.bool true) := hN.2.2.2.2.2.2.2.2.2.2.2.2.2.1
        have r46 : x 14 = (.bool true) := hN.2.2.2.2.2.2.2.2.2.2.2.2.2.2.1
        have r47 : x 15 = (.bool true) := hN.2.2.2.2.2.2.2.2.2.2.2.2.2.2.2.1
        have r48 : x 16 = (.agg #[.int .u8 k2', .int .i64 n2, .string ⟨s2.toArray⟩, .slice bk mk dk, .slice bv mv dv]) := hN.2.2.2.2.2.2.2.2.2.2.2.2.2.2.2.2.1
        have r49 : x 17 = (.agg #[.int .u8 k, .int .i64 n, .string ⟨s.toArray⟩, .slice ak lk ck, .slice av lv cv]) := hN.2.2.2.2.2.2.2.2.2.2.2.2.2.2.2.2.2.1
        have r50 : x 18 = (.bool true) := hN.2.2.2.2.2.2.2.2.2.2.2.2.2.2.2.2.2.2.1
        have r51 : x 19 = (.bool true) := hN.2.2.2.2.2.2.2.2.2.2.2.2.2.2.2.2.2.2.2.1
        clear hN
        simp only [putAll, Act.put, List.setIfInBounds_toArray, List.set_cons_succ, List.set_cons_zero, r32, r33, r34, r36, r37, r38, r39, r40, r41, r42, r43, r44, r45, r46, r47, r48, r49, r50, r51]
        clear r32 r33 r34 r36 r37 r38 r39 r40 r41 r42 r43 r44 r45 r46 r47 r48 r49 r50 r51
        go_wp2_with fail
        go_ret
        exact ⟨rfl, (HALL.out.trans ((((Only.refl _ w10).drew)).trans ox)).still⟩
theorem vals_walk (v0 : Value) (w : World) {H : Type} {enc : TypeId × Value → H} {d0 : DataW H} {p0 : List MemPlace} {b0 : Nat}
    (h0 : DataW.Trod enc Try.prog w 0 (fun _ => true) true 35 v0 d0 p0) (g0 : Value.okWide Try.prog w .any b0 35 v0) :
    Calls Try.prog 11 #[v0] w fun e w' => e = .returned (.bool true) ∧ Below w.heap.size w w' := by
  obtain ⟨t, cs, rfl, ht⟩ := value_of_Trod h0
  exact vals0 t w cs ht
end Go.Proofs.Ytoojnpafcdaflaa
