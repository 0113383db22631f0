/- columbarylaw03.WireCut: the walk. -/
import Derived.Test.YtoojnpafcdaflaaLVals
namespace Go.Proofs.Ytoojnpafcdaflaa
open Go Go.RowKit
set_option linter.unusedVariables false
set_option linter.unusedSimpArgs false
set_option maxRecDepth 100000

theorem encV_pos (t : VT) : 0 < (encV t).length := by
  obtain ⟨k, n, s, ks, vs⟩ := t
  simp only [encV, List.length_append]
  have := encU_pos k
  omega
set_option maxHeartbeats 8000000 in
theorem cut0 (t : VT) (c : Nat) (w : World) (cs : List Value) (hc : c ≤ 65535) (hv : ValAt w (fun q => q < w.heap.size) t cs) :
    Calls Try.prog 6 #[.agg cs.toArray, .int .u16 (c : Int)] w fun e w' => e = .returned (.bool true) ∧ Below w.heap.size w w' := by
  have hts := valAt_small t _ hv
  obtain ⟨k, n, s, ak, lk, ck, av, lv, cv, rfl⟩ := valAt_form hv
  obtain ⟨wb, hwb, ob, hbx⟩ := boxes1 w (.int .u8 k) (.int .i64 n) (.string ⟨s.toArray⟩) (.slice ak lk ck) (.slice av lv cv)
  have hbx0 := fun w' ho => hbx (fun _ => False) w' ho (fun h => h)
  have hV : ∀ w', Only (fun _ => False) wb w' → ValAt w' (fun q => q < w.heap.size) t [.int .u8 k, .int .i64 n, .string ⟨s.toArray⟩, .slice ak lk ck, .slice av lv cv] := fun w' ho => valAt_only (S := fun _ => False) (ob.trans ho) (fun _ _ h => h) _ _ hv
  have HV := Lib.hid hV; have HBX := Lib.hid hbx0; have OB := Lib.hid ob; have HWB := Lib.hid hwb; have HTS := Lib.hid hts
  clear hV hbx hbx0 ob hwb hts hv
  have hc0 : (0 : Int) ≤ (c : Int) := by omega
  have hc1 : (c : Int) ≤ 65535 := by omega
  cases hg : greatV t with
  | true =>
    have HG := Lib.hid hg; clear hg
    go_enter Try.func6, Try.ntmps6
    go_wp2_with fail
    rw [← HWB.out]
    refine (awake_any _).mono ?_
    rintro e w1 ⟨rfl, o1⟩
    obtain ⟨c0, c1, c2, c3, c4⟩ := range5 (HBX.out w1 o1)
    have hgr := rGreat t _ w1 _ (HV.out w1 o1)
    rw [HG.out] at hgr
    have HGR := Lib.hid hgr; have O1 := Lib.hid o1; clear hgr o1
    go_wp2_with fail
    refine HGR.out.mono ?_
    rintro e w2 ⟨rfl, o2⟩
    have O2 := Lib.hid o2; clear o2 c0 c1 c2 c3 c4
    go_wp2_with fail
    refine (awake_any _).mono ?_
    rintro e w3 ⟨rfl, o3⟩
    have O3 := Lib.hid o3; clear o3
    go_wp2_with fail
    go_ret
    exact ⟨rfl, (((OB.out.trans O1.out).trans O2.out).trans O3.out).still⟩
  | false =>
    have HG := Lib.hid hg
    obtain ⟨fm, hfm⟩ : ∃ fm, fm = formV t 0 := ⟨_, rfl⟩
    have hgood : fm = true → (encV t).length ≤ 900000 ∧ GoodV t := fun h => by rw [hfm] at h; exact ⟨form_len HTS.out hg h, form_good t 0 h⟩
    have HFM := Lib.hid hfm; have HGOOD := Lib.hid hgood; clear hg hfm hgood
    go_enter Try.func6, Try.ntmps6
    go_wp2_with fail
    rw [← HWB.out]
    refine (awake_any _).mono ?_
    rintro e w1 ⟨rfl, o1⟩
    obtain ⟨c0, c1, c2, c3, c4⟩ := range5 (HBX.out w1 o1)
    have hgr := rGreat t _ w1 _ (HV.out w1 o1)
    rw [HG.out] at hgr
    have HGR := Lib.hid hgr; have O1 := Lib.hid o1; clear hgr o1
    go_wp2_with fail
    refine HGR.out.mono ?_
    rintro e w2 ⟨rfl, o2⟩
    have O2 := Lib.hid (O1.out.trans o2); clear o2 c0 c1 c2 c3 c4
    obtain ⟨c0, c1, c2, c3, c4⟩ := range5 (HBX.out w2 O2.out)
    have hc : Calls Try.prog 24 #[.agg #[.int .u8 k, .int .i64 n, .string ⟨s.toArray⟩, .slice ak lk ck, .slice av lv cv], .int .i64 0] w2 _ := rForm _ t (Nat.le_refl _) _ w2 _ 0 (HV.out w2 O2.out) (by omega)
    rw [← HFM.out] at hc
    have HC := Lib.hid hc; clear hc
    cases fm with
    | false =>
      go_wp2_with fail
      refine HC.out.mono ?_
      rintro e w4 ⟨rfl, o4⟩
      have O4 := Lib.hid (O2.out.trans o4); clear o4 c0 c1 c2 c3 c4
      go_wp2_with fail
      refine (awake_any _).mono ?_
      rintro e w5 ⟨rfl, o5⟩
      have O5 := Lib.hid (O4.out.trans o5); clear o5
      go_wp2_with fail
      go_ret
      exact ⟨rfl, (OB.out.trans O5.out).still⟩
    | true =>
      obtain ⟨hlen, hgd⟩ := HGOOD.out rfl
      have HLEN := Lib.hid hlen; have HGD := Lib.hid hgd; clear hlen hgd
      go_wp2_with fail
      refine HC.out.mono ?_
      rintro e w4 ⟨rfl, o4⟩
      have O4 := Lib.hid (O2.out.trans o4); clear o4 c0 c1 c2 c3 c4
      go_upto_region 4 with (fail)
      have hA := heap_new w4 (.cells #[.slice none 0 0] 26)
      have oA := O4.out.alloc (.cells #[.slice none 0 0] 26)
      generalize hw5 : w4.alloc (.cells #[.slice none 0 0] 26) = w5 at *
      have hs4 : w.heap.size < w4.heap.size := by
        have h1 : w.heap.size < wb.heap.size := by rw [HWB.out]; simp
        exact Nat.lt_of_lt_of_le h1 O4.out.size
      have hs5 : w4.heap.size < w5.heap.size := by rw [← hw5]; simp
      have hv5 := HV.out w5 oA
      have hwv := wValue _ t (Nat.le_refl _) (fun q => q = w4.heap.size) (fun q => q < w.heap.size) w4.heap.size w5 [] w5 _ (WS.new hA) hv5 HGD.out (fun q hq => ⟨by omega, by omega⟩) (by have := HLEN.out; omega) (by have := HLEN.out; simp; omega)
      rw [List.nil_append] at hwv
      obtain ⟨c0, c1, c2, c3, c4⟩ := range5 (HBX.out w5 oA)
      have HWV := Lib.hid hwv; have O5 := Lib.hid oA; have HS := Lib.hid hs4; have HS5 := Lib.hid hs5; clear hwv oA hA hv5 hw5 hs4 hs5
      go_wp2_with fail
      refine HWV.out.mono ?_
      rintro e w6 ⟨rfl, h6⟩
      have hd := wDone_s _ _ _ _ w6 h6 (by have := HLEN.out; omega)
      have o6 : Only (fun q => q = w4.heap.size) w5 w6 := h6.only
      have HD := Lib.hid hd; have O6 := Lib.hid o6; clear hd o6 h6 c0 c1 c2 c3 c4
      go_wp2_with fail
      refine HD.out.mono ?_
      rintro e w7 ⟨v7, rfl, h7, o7⟩
      have O7 := Lib.hid (O6.out.trans' o7 (fun _ _ h => h.elim)); have HB7 := Lib.hid h7.bytes; have HG7 := Lib.hid (fun k hk => (h7.ge (k := k) hk).2); clear o7 h7
      obtain ⟨a7, c7, hv7, hc7⟩ : ∃ a7 c7, v7 = .slice a7 (encV t).length c7 ∧ (encV t).length ≤ c7 := by obtain ⟨a, c, e, h, _⟩ := HB7.out; exact ⟨a, c, e, h⟩
      subst hv7
      obtain ⟨L, hL⟩ : ∃ L, L = (encV t).length := ⟨_, rfl⟩
      rw [← hL] at hc7 ⊢
      have hL0 : 0 < L := by rw [hL]; exact encV_pos t
      have hL1 : L ≤ 900000 := by rw [hL]; exact HLEN.out
      have HL := Lib.hid hL; clear hL
      have hLi0 : (0 : Int) < (L : Int) := by omega
      have hLi1 : (L : Int) ≤ 900000 := by omega
      have hne : ((L : Int) == 0) = false := by simp; omega
      have hne2 : (L == 0) = false := by simp; omega
      have hm0 : (0 : Int) ≤ (c : Int) % (L : Int) := Int.emod_nonneg _ (by omega)
      have hml : (c : Int) % (L : Int) < (L : Int) := Int.emod_lt_of_pos _ (by omega)
      have hm1 : (c : Int) % (L : Int) ≤ (c7 : Int) := by omega
      have hcut := bytes_pre HB7.out (m := c % L) (by have := Nat.mod_lt c hL0; have := HL.out; omega)
      have hmn := Nat.mod_lt c hL0
      have hdec : decV 24 ((encV t).take (c % L)) = none := cut_none HTS.out HFM.out.symm (q := (encV t).drop (c % L)) (List.take_append_drop _ _) (fun e => by have h1 := congrArg List.length e; rw [List.length_drop] at h1; have := HL.out; simp at h1; omega)
      have HCUT := Lib.hid hcut; have HDEC := Lib.hid hdec; have HMN := Lib.hid hmn; clear hcut hdec hmn
      go_wp2_with fail
      refine (read_new _ ((encV t).take (c % L)) w7 HCUT.out (fun _ k hk => HG7.out k (by cases a7 with | none => cases hk | some ad => exact hk))).mono ?_
      rintro e w8 ⟨rfl, h8, o8⟩
      have O8 := Lib.hid (O7.out.trans' o8 (fun _ _ h => h.elim)); have H8 := Lib.hid h8; have hs78 := o8.size; have HS78 := Lib.hid hs78; clear o8 h8 hs78
      go_wp2_with fail
      refine (rval_any w7.heap.size ((encV t).take (c % L)) false w8 H8.out).mono ?_
      rintro e w9 ⟨t9, cs9, r9, β9, he9, hv9, h9, o9, k1, k2⟩
      have hβ : β9 = true := by
        cases β9 with
        | true => rfl
        | false => rw [HDEC.out] at k1; cases (k1 rfl).2
      subst hβ
      have ht9 := (k2 rfl).2
      subst ht9
      obtain ⟨k2', n2, s2, bk, mk, dk, bv, mv, dv, rfl⟩ := valAt_form hv9
      subst he9
      have hst := rSame _ zeroT zeroT (Nat.le_refl _) (fun q => w8.heap.size ≤ q) (fun _ => False) w9 _ [.int .u8 0, .int .i64 0, .string ByteArray.empty, .slice none 0 0, .slice none 0 0] hv9 (valAt_leaf (s := []) (by decide) (by decide) (by decide) (by simp))
      rw [sameV_refl zeroT] at hst
      have o59 : Only (fun q => q = w4.heap.size ∨ q = w7.heap.size) w5 w9 := (O8.out.mono (fun _ _ h => .inl h)).trans' o9 (fun _ _ h => .inr h)
      have hall : Only (fun _ => False) w w9 := ((OB.out.trans O5.out).trans' o59 (fun q hq h => by have := O7.out.size; have := HS.out; have := HS5.out; omega))
      have HST := Lib.hid hst; have H9 := Lib.hid h9; have HALL := Lib.hid hall; clear hst h9 hall k1 k2 o9 hv9
      go_wp2_with fail
      refine HST.out.mono ?_
      rintro e w10 ⟨rfl, o10⟩
      have H10 := Lib.hid (H9.out.still o10); have O10 := Lib.hid (HALL.out.trans o10); clear o10
      go_wp2_with fail
      refine (bad_any w7.heap.size r9 true w10 H10.out).mono ?_
      rintro e w11 ⟨rfl, rfl⟩
      go_wp2_with fail
      go_ret
      exact ⟨rfl, O10.out.still⟩
theorem cut_walk (v0 : Value) (c : Int) (w : World) {H : Type} {enc : TypeId × Value → H} {d0 : DataW H} {p0 : List MemPlace} {b0 : Nat}
    (h0 : DataW.Trod enc Try.prog w 0 (fun _ => true) true 35 v0 d0 p0) (g0 : Value.okWide Try.prog w .any b0 35 v0) (w1 : (Lit.int .u16 c).wf = true) :
    Calls Try.prog 6 #[v0, .int .u16 c] w fun e w' => e = .returned (.bool true) ∧ Below w.heap.size w w' := by
  obtain ⟨t, cs, rfl, ht⟩ := value_of_Trod h0
  simp [Lit.wf, IntKind.min, IntKind.max, IntKind.signed, IntKind.bits] at w1
  obtain ⟨m, rfl⟩ : ∃ m : Nat, c = (m : Int) := ⟨c.toNat, by omega⟩
  exact cut0 t m w cs (by omega) ht
end Go.Proofs.Ytoojnpafcdaflaa
