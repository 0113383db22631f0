/- columbarylaw03.WireEntities: the walk. -/
import Derived.Test.YtoojnpafcdaflaaEnw
import Derived.Test.YtoojnpafcdaflaaAwk
import Derived.Test.YtoojnpafcdaflaaLen
import Derived.Test.YtoojnpafcdaflaaReg
import Derived.BigQuiet
namespace Go.Proofs.Ytoojnpafcdaflaa
open Go Go.RowKit
set_option linter.unusedVariables false
set_option linter.unusedSimpArgs false
set_option maxRecDepth 100000

/-- An entity, and the value of its fields, laid in boxes of their own. -/
theorem ebox2 (w : World) (e0 e1 e2 e3 g0 g1 g2 g3 g4 : Value) : ∃ wb, wb = (w.alloc (.cells #[e0, e1, e2, e3] 69)).alloc (.cells #[g0, g1, g2, g3, g4] 35) ∧ Only (fun _ => False) w wb ∧ w.heap.size + 2 = wb.heap.size ∧
    ∀ (S : Nat → Prop) w', Only S wb w' → (¬ S w.heap.size → w'.heap[w.heap.size]? = some (.cells #[e0, e1, e2, e3] 69 (0, 0))) ∧ (¬ S (w.heap.size + 1) → w'.rangeAt (w.heap.size + 1) 0 [g0, g1, g2, g3, g4]) := by
  refine ⟨_, rfl, ((Only.refl _ w).alloc _).alloc _, by simp, fun S w' ho => ⟨fun hS => ?_, fun hS => ?_⟩⟩
  · have h := heap_old (heap_new w (.cells #[e0, e1, e2, e3] 69)) (.cells #[g0, g1, g2, g3, g4] 35)
    rw [ho.block _ (Array.getElem?_eq_some_iff.1 h).1 hS]; exact h
  · have h := heap_new (w.alloc (.cells #[e0, e1, e2, e3] 69)) (.cells #[g0, g1, g2, g3, g4] 35)
    rw [World.size_alloc] at h
    exact range_of_block (e := 35) (fr := (0, 0)) (by rw [ho.block _ (Array.getElem?_eq_some_iff.1 h).1 hS]; exact h)
theorem encE_len {ty id : List UInt8} {ks : List (List UInt8)} {vs : List VT} (h1 : ty.length ≤ 1000000) (h2 : id.length ≤ 1000000) (h3 : (encV (objV ks vs)).length ≤ 1000000) : (encE ty id ks vs).length ≤ 4000000 := by
  unfold encE encT
  simp only [List.length_append]
  have := encU_len10 (n := ty.length) (by omega); have := encU_len10 (n := id.length) (by omega)
  omega
set_option maxHeartbeats 16000000 in
theorem ents0 (ty id : List UInt8) (ks : List (List UInt8)) (vs : List VT) (ak av : Option Addr) (ck cv : Nat) (w : World) (hty : ty.length ≤ maxLen) (hid : id.length ≤ maxLen)
    (hv : ValAt w (fun q => q < w.heap.size) (objV ks vs) [.int .u8 6, .int .i64 0, .string ByteArray.empty, .slice ak ks.length ck, .slice av vs.length cv]) :
    Calls Try.prog 12 #[.agg #[.string ⟨ty.toArray⟩, .string ⟨id.toArray⟩, .slice ak ks.length ck, .slice av vs.length cv]] w fun e w' => e = .returned (.bool true) ∧ Below w.heap.size w w' := by
  have hts := valAt_small _ _ hv
  have hckl : ks.length ≤ 9223372036854775807 := by
    have h := hv
    unfold objV at h
    simp only [ValAt] at h
    obtain ⟨_, _, _, _, e, _, _, _, h4, _⟩ := h
    simp only [List.cons.injEq, and_true] at e
    obtain ⟨-, -, -, e4, -⟩ := e
    injection e4 with _ _ e43
    omega
  obtain ⟨gm, hgm⟩ : ∃ gm, gm = greatV (objV ks vs) := ⟨_, rfl⟩
  obtain ⟨fm, hfm⟩ : ∃ fm, fm = formV (objV ks vs) 0 := ⟨_, rfl⟩
  obtain ⟨lt, hlt⟩ : ∃ b, b = decide (32 < ty.length) := ⟨_, rfl⟩
  obtain ⟨li, hli⟩ : ∃ b, b = decide (200 < id.length) := ⟨_, rfl⟩
  have ht1 : decide ((32 : Int) < (ty.length : Int)) = lt := by rw [hlt]; exact decide_eq_decide.2 (by omega)
  have ht2 : decide (32 < ty.length) = lt := hlt.symm
  have hi1 : decide ((200 : Int) < (id.length : Int)) = li := by rw [hli]; exact decide_eq_decide.2 (by omega)
  have hi2 : decide (200 < id.length) = li := hli.symm
  have hsz1 : (⟨ty.toArray⟩ : ByteArray).size = ty.length := by simp [ByteArray.size]
  have hsz2 : (⟨id.toArray⟩ : ByteArray).size = id.length := by simp [ByteArray.size]
  have hb1 : (ty.length : Int) ≤ 9223372036854775807 := by unfold maxLen at hty; omega
  have hb2 : (id.length : Int) ≤ 9223372036854775807 := by unfold maxLen at hid; omega
  have htx := texts_of hv
  obtain ⟨wb, hwb, ob, hsz, hbx⟩ := ebox2 w (.string ⟨ty.toArray⟩) (.string ⟨id.toArray⟩) (.slice ak ks.length ck) (.slice av vs.length cv) (.int .u8 6) (.int .i64 0) (.string ByteArray.empty) (.slice ak ks.length ck) (.slice av vs.length cv)
  have hV : ∀ w', Only (fun _ => False) wb w' → ValAt w' (fun q => q < w.heap.size) (objV ks vs) [.int .u8 6, .int .i64 0, .string ByteArray.empty, .slice ak ks.length ck, .slice av vs.length cv] := fun w' ho => valAt_only (S := fun _ => False) (ob.trans ho) (fun _ _ h => h) _ _ hv
  have HV := Lib.hid hV; have HBX := Lib.hid hbx; have OB := Lib.hid ob; have HWB := Lib.hid hwb; have HTS := Lib.hid hts; have HSZ := Lib.hid hsz; have HGM := Lib.hid hgm; have HFM := Lib.hid hfm; have HLT := Lib.hid hlt; have HLI := Lib.hid hli; have HCK := Lib.hid hckl
  clear hV hbx ob hwb hts hv hsz hgm hfm hlt hli hty hid htx hckl
  have hz := zero_V
  go_enter Try.func12, Try.ntmps12
  go_wp2_with fail
  rw [← HWB.out]
  clear hz
  refine (awake_any _).mono ?_
  rintro e w1 ⟨rfl, o1⟩
  obtain ⟨c0, c1, c2, c3, c4⟩ := range5 ((HBX.out _ w1 o1).2 (fun h => h))
  have hgr := rGreat (objV ks vs) _ w1 _ (HV.out w1 o1)
  rw [← HGM.out] at hgr
  have HGR := Lib.hid hgr; have O1 := Lib.hid o1; clear hgr o1
  go_wp2_with fail
  refine HGR.out.mono ?_
  rintro e w2 ⟨rfl, o2⟩
  have O2 := Lib.hid (O1.out.trans o2); clear o2 c0 c1 c2 c3 c4 HGR
  cases gm with
  | true =>
        go_wp2_with fail
        refine (awake_any _).mono ?_
        rintro e w9 ⟨rfl, o9⟩
        have O9 := Lib.hid o9; clear o9
        go_wp2_with fail
        go_ret
        exact ⟨rfl, ((OB.out.trans O2.out).trans O9.out).still⟩
  | false =>
  obtain ⟨c0, c1, c2, c3, c4⟩ := range5 ((HBX.out _ w2 O2.out).2 (fun h => h))
  have hfo : Calls Try.prog 24 #[.agg #[.int .u8 6, .int .i64 0, .string ByteArray.empty, .slice ak ks.length ck, .slice av vs.length cv], .int .i64 0] w2 _ := rForm _ (objV ks vs) (Nat.le_refl _) _ w2 _ 0 (HV.out w2 O2.out) (by omega)
  rw [← HFM.out] at hfo
  have HFO := Lib.hid hfo; clear hfo
  go_wp2_with fail
  refine HFO.out.mono ?_
  rintro e w3 ⟨rfl, o3⟩
  have O3 := Lib.hid (O2.out.trans o3); clear o3 c0 c1 c2 c3 c4 HFO
  obtain ⟨x0, x1, x2, x3⟩ := box4 ((HBX.out _ w3 O3.out).1 (fun h => h))
  cases fm with
  | false =>
        go_wp2_with fail
        refine (awake_any _).mono ?_
        rintro e w9 ⟨rfl, o9⟩
        have O9 := Lib.hid o9; clear o9
        go_wp2_with fail
        go_ret
        exact ⟨rfl, ((OB.out.trans O3.out).trans O9.out).still⟩
  | true =>
  cases lt with
  | true =>
        go_wp2_with fail
        refine (awake_any _).mono ?_
        rintro e w9 ⟨rfl, o9⟩
        have O9 := Lib.hid o9; clear o9
        go_wp2_with fail
        go_ret
        exact ⟨rfl, ((OB.out.trans O3.out).trans O9.out).still⟩
  | false =>
  cases li with
  | true =>
        go_wp2_with fail
        refine (awake_any _).mono ?_
        rintro e w9 ⟨rfl, o9⟩
        have O9 := Lib.hid o9; clear o9
        go_wp2_with fail
        go_ret
        exact ⟨rfl, ((OB.out.trans O3.out).trans O9.out).still⟩
  | false =>
  have hlen : (encV (objV ks vs)).length ≤ 900000 := form_len HTS.out HGM.out.symm HFM.out.symm
  have hgd : GoodV (objV ks vs) := form_good _ 0 HFM.out.symm
  have hty : ty.length ≤ 32 := by have := HLT.out; simp at this; exact this
  have hid : id.length ≤ 200 := by have := HLI.out; simp at this; exact this
  have hel := encE_len (ks := ks) (vs := vs) (show ty.length ≤ 1000000 by omega) (show id.length ≤ 1000000 by omega) (by omega)
  have hcan : Rising ks → DecE (encE ty id ks vs) ty id ks vs [] := fun hr => by
    have := decE_enc (ty := ty) (id := id) hty hid HTS.out HFM.out.symm hr []
    rwa [List.append_nil] at this
  have honly : ∀ ty' id' ks' vs' r', DecE (encE ty id ks vs) ty' id' ks' vs' r' → ty = ty' ∧ id = id' ∧ ks = ks' ∧ vs = vs' ∧ [] = r' ∧ Rising ks := fun ty' id' ks' vs' r' h => by
    rw [← List.append_nil (encE ty id ks vs)] at h
    exact decE_only hty hid HTS.out HFM.out.symm h
  have HCAN := Lib.hid hcan; have HONLY := Lib.hid honly; have HEL := Lib.hid hel; have HLEN := Lib.hid hlen; have HGD := Lib.hid hgd; have HTY := Lib.hid hty; have HID := Lib.hid hid; clear hcan honly hel hlen hgd hty hid
  go_upto_region 5 with (fail)
  clear x0 x1 x2 x3
  have hA := heap_new w3 (.cells #[.slice none 0 0] 26)
  have oA := O3.out.alloc (.cells #[.slice none 0 0] 26)
  generalize hw4 : w3.alloc (.cells #[.slice none 0 0] 26) = w4 at *
  have hs3 : w.heap.size + 1 < w3.heap.size := by have := O3.out.size; have := HSZ.out; omega
  have hs4 : w3.heap.size < w4.heap.size := by rw [← hw4]; simp
  have hv4 := HV.out w4 oA
  have hwe := wEntity ty id ks vs ak av ck cv (fun q => q = w3.heap.size) (fun q => q < w.heap.size) w3.heap.size w4 [] w4 (WS.new hA) hv4 HGD.out (fun q hq => ⟨by omega, by omega⟩) (by have := HTY.out; omega) (by have := HID.out; omega) (by have := HLEN.out; omega) (by simp)
  rw [List.nil_append] at hwe
  obtain ⟨x0, x1, x2, x3⟩ := box4 ((HBX.out _ w4 oA).1 (fun h => h))
  have HWE := Lib.hid hwe; have O4 := Lib.hid oA; have HS3 := Lib.hid hs3; have HS4 := Lib.hid hs4; clear hwe oA hA hv4 hw4 hs3 hs4
  go_wp2_with fail
  refine HWE.out.mono ?_
  rintro e w5 ⟨rfl, h5⟩
  have hd := wDone_s _ _ _ _ w5 h5 (by have := HEL.out; omega)
  have o5 : Only (fun q => q = w3.heap.size) w4 w5 := h5.only
  have HD := Lib.hid hd; have O5 := Lib.hid o5; clear hd o5 h5 x0 x1 x2 x3
  go_wp2_with fail
  refine HD.out.mono ?_
  rintro e w6 ⟨v6, rfl, h6, o6⟩
  have o46 : Only (fun q => q = w3.heap.size) w4 w6 := O5.out.trans' o6 (fun _ _ h => h.elim)
  have hx6 : ∀ w', Only (fun _ => False) w6 w' → w'.heap[w.heap.size]? = some (.cells #[.string ⟨ty.toArray⟩, .string ⟨id.toArray⟩, .slice ak ks.length ck, .slice av vs.length cv] 69 (0, 0)) ∧ ValAt w' (fun q => q < w.heap.size) (objV ks vs) [.int .u8 6, .int .i64 0, .string ByteArray.empty, .slice ak ks.length ck, .slice av vs.length cv] := fun w' ho => by
    have h := (o46.trans' ho (fun _ _ h => h.elim))
    exact ⟨(HBX.out (fun q => q = w3.heap.size) w' ((O4.out.mono (T := fun q => q = w3.heap.size) (fun _ _ h => h.elim)).trans h)).1 (by have := HS3.out; omega), valAt_only h (fun q hq e => by have := HS3.out; omega) _ _ (HV.out w4 O4.out)⟩
  have O46 := Lib.hid o46; have HB6 := Lib.hid h6.bytes; have HG6 := Lib.hid (fun k hk => (h6.ge (k := k) hk).2); have HX6 := Lib.hid hx6; clear o6 h6 o46 hx6 HD HWE O5
  go_wp2_with fail
  go_loopw [6, 7] (fun r i wr => ∃ (k : Nat) (rb : Bool), r = .bool rb ∧ i = .int .i64 ((k : Int) + 1) ∧ k ≤ ks.length - 1 ∧ Hid (rb = upto ks k) ∧ Hid (Only (fun _ => False) w6 wr)) (fun r i _ => ks.length + 1 - (intOf i).toNat)
  case atStart => exact ⟨0, true, rfl, rfl, Nat.zero_le _, Lib.hid rfl, Lib.hid (Only.refl _ _)⟩
  case round =>
    obtain ⟨k, rb, rfl, rfl, hk, HRB, HO⟩ := hrel
    obtain ⟨x0, x1, x2, x3⟩ := box4 (HX6.out wr HO.out).1
    have hkl : (ks.length : Int) ≤ 9223372036854775807 := by have := HCK.out; omega
    by_cases hlt : k + 1 < ks.length
    · have t1 : decide ((k : Int) + 1 < (ks.length : Int)) = true := by simp; omega
      have htx := texts_of (HX6.out wr HO.out).2
      obtain ⟨tb, toff, ha, hb, hc1⟩ := htx.cells hlt
      obtain ⟨tb', toff', ha', _, hc0⟩ := htx.cells (show k < ks.length by omega)
      subst ha
      injection ha' with ha'
      injection ha' with e1 e2
      subst e1; subst e2
      have hnx : ∀ q, q = (rb && Op.bytesLess ks[k] ks[k + 1]) → q = upto ks (k + 1) := fun q hq => by
        simp only [upto]
        rw [getD_get hlt, getD_get (show k < ks.length by omega), ← HRB.out]; exact hq
      have HNX := Lib.hid hnx; clear hnx htx
      generalize ks[k + 1] = k1 at *
      generalize ks[k] = k0 at *
      have hj00 : (0 : Int) ≤ (k : Int) := by omega
      have hj01 : (0 : Int) ≤ (k : Int) + 1 := by omega
      have hj02 : (k : Int) + 1 < (ks.length : Int) := by omega
      have hj03 : (k : Int) < (ks.length : Int) := by omega
      have hw1 : IntKind.i64.wrap ((k : Int) + 1 - 1) = (k : Int) := by rw [IntKind.wrap_i64]; omega
      have hw2 : IntKind.i64.wrap (k : Int) = (k : Int) := by rw [IntKind.wrap_i64]; omega
      cases rb with
      | true =>
        go_wp2_with fail
        go_quiet (fail)
        go_wp2_with fail
        go_roundw
        case rel => exact ⟨k + 1, Op.bytesLess k0 k1, by simp [go_sem], by simp [go_sem], by omega, Lib.hid (HNX.out _ (by simp)), Lib.hid (HO.out.drewN _)⟩
        case measure => simp [intOf]; omega
      | false =>
        go_wp2_with fail
        go_quiet (fail)
        go_wp2_with fail
        go_roundw
        case rel => exact ⟨k + 1, false, by simp [go_sem], by simp [go_sem], by omega, Lib.hid (HNX.out _ (by simp)), Lib.hid (HO.out.drewN _)⟩
        case measure => simp [intOf]; omega
    · have t1 : decide ((k : Int) + 1 < (ks.length : Int)) = false := by simp; omega
      have hrs : rb = true ↔ Rising ks := by
        rw [← rising_iff, HRB.out, show ks.length - 1 = k from by omega]
      have HRS := Lib.hid hrs; clear hrs
      go_wp2_with fail
      refine (read_new v6 (encE ty id ks vs) wr (HB6.out.still HO.out) (fun _ q hq => by have := HG6.out q hq; have := HO.out.size; omega)).mono ?_
      rintro e w8 ⟨rfl, h8, o8⟩
      have hB8 := HB6.out.still (HO.out.trans o8)
      have H8 := Lib.hid h8; have O8 := Lib.hid (HO.out.trans o8); have HB8 := Lib.hid hB8; have hs8 := o8.size; have HS8 := Lib.hid hs8; have h68 := HO.out.size; have HS68 := Lib.hid h68; clear h8 o8 hB8 hs8 h68 x0 x1 x2 x3
      go_wp2_with fail
      refine (rent_any wr.heap.size (encE ty id ks vs) false w8 H8.out).mono ?_
      rintro e w9 ⟨ty', id', ks', vs', ak', av', ck', cv', r9, β9, rfl, hty9, hid9, hv9, h9, o9, k1, k2⟩
      have hb9 : Bytes w9 v6 (encE ty id ks vs) := HB8.out.only o9 (fun hp q hq e => by have := HG6.out q hq; have := HS68.out; omega)
      have o69 : Only (fun q => q = wr.heap.size) w6 w9 := (O8.out.mono (T := fun q => q = wr.heap.size) (fun _ _ h => h.elim)).trans o9
      have o49 : Only (fun q => q = w3.heap.size ∨ q = wr.heap.size) w4 w9 := (O46.out.mono (T := fun q => q = w3.heap.size ∨ q = wr.heap.size) (fun _ _ h => .inl h)).trans' o69 (fun _ _ h => .inr h)
      have HV9 := Lib.hid hv9; have H9 := Lib.hid h9; have HB9 := Lib.hid hb9; have O49 := Lib.hid o49; have K1 := Lib.hid k1; have K2 := Lib.hid k2; clear hv9 h9 hb9 o49 o69 o9 k1 k2 hty9 hid9
      go_upto_region 13 with (fail)
      have hu := heap_new w9 (.cells #[.string ⟨ty'.toArray⟩, .string ⟨id'.toArray⟩, .slice ak' ks'.length ck', .slice av' vs'.length cv'] 69)
      have oo := (Only.refl (fun _ => False) w9).alloc (.cells #[.string ⟨ty'.toArray⟩, .string ⟨id'.toArray⟩, .slice ak' ks'.length ck', .slice av' vs'.length cv'] 69)
      generalize w9.alloc (.cells #[.string ⟨ty'.toArray⟩, .string ⟨id'.toArray⟩, .slice ak' ks'.length ck', .slice av' vs'.length cv'] 69) = w10 at *
      have hU10 : ∀ w', Only (fun _ => False) w10 w' → w'.heap[w9.heap.size]? = some (.cells #[.string ⟨ty'.toArray⟩, .string ⟨id'.toArray⟩, .slice ak' ks'.length ck', .slice av' vs'.length cv'] 69 (0, 0)) ∧ ValAt w' (fun q => w8.heap.size ≤ q) (objV ks' vs') [.int .u8 6, .int .i64 0, .string ByteArray.empty, .slice ak' ks'.length ck', .slice av' vs'.length cv'] ∧ ReaderAt w' wr.heap.size r9 β9 ∧ Bytes w' v6 (encE ty id ks vs) := fun w' ho =>
        ⟨by rw [ho.block _ (Array.getElem?_eq_some_iff.1 hu).1 (fun h => h)]; exact hu, valAt_only (S := fun _ => False) (oo.trans ho) (fun _ _ h => h) _ _ HV9.out, H9.out.still (oo.trans ho), HB9.out.still (oo.trans ho)⟩
      have hX10 : ∀ w', Only (fun _ => False) w10 w' → w'.heap[w.heap.size]? = some (.cells #[.string ⟨ty.toArray⟩, .string ⟨id.toArray⟩, .slice ak ks.length ck, .slice av vs.length cv] 69 (0, 0)) ∧ ValAt w' (fun q => q < w.heap.size) (objV ks vs) [.int .u8 6, .int .i64 0, .string ByteArray.empty, .slice ak ks.length ck, .slice av vs.length cv] := fun w' ho => by
        have h : Only (fun q => q = w3.heap.size ∨ q = wr.heap.size) w4 w' := (O49.out.trans' oo (fun _ _ h => h.elim)).trans' ho (fun _ _ h => h.elim)
        have hlw : w.heap.size < wr.heap.size := by have := HS68.out; have := O46.out.size; have := HS3.out; have := HS4.out; omega
        exact ⟨(HBX.out _ w' ((O4.out.mono (fun _ _ h => h.elim)).trans h)).1 (by have := HS3.out; omega), valAt_only h (fun q hq e => by have := HS3.out; omega) _ _ (HV.out w4 O4.out)⟩
      have hall : Only (fun _ => False) w w10 := ((OB.out.trans O4.out).trans' O49.out (fun q hq h => by have := HS3.out; have := HS4.out; have := HS68.out; have := O46.out.size; omega)).trans oo
      obtain ⟨a6, c6, hv6⟩ : ∃ a6 c6, v6 = .slice a6 (encE ty id ks vs).length c6 := by obtain ⟨a, c, e, _⟩ := HB9.out; exact ⟨a, c, e⟩
      subst hv6
      have HU10 := Lib.hid hU10; have HX10 := Lib.hid hX10; have HALL := Lib.hid hall; clear hU10 hX10 hall hu oo
      cases rb with
      | true =>
        have hri := HRS.out.1 rfl
        have hβ : β9 = false := by
          cases β9 with
          | false => rfl
          | true => rcases K2.out rfl with h | h; (cases h); exact absurd (HCAN.out hri) (h _ _ _ _ _)
        subst hβ
        obtain ⟨e1, e2, e3, e4, e5, _⟩ := HONLY.out _ _ _ _ _ (K1.out rfl).2
        subst e1; subst e2; subst e3; subst e4; subst e5
        clear hri
        refine wp_region_steps 21 (by kernel_rfl) rfl (by kernel_rfl) [some 71, some 72, some 73, some 74, some 75, some 76, some 77, some 78, some 79, some 80, some 81, some 82, some 83, some 84, some 85, some 86, some 87, some 88, some 89, some 90, some 91] rfl rfl (fun _ => False) [(fun v _ => v = (.slice a6 (encE ty id ks vs).length c6)), (fun v _ => v = (.string ⟨(encE ty id ks vs).toArray⟩)), (fun v _ => v = (.agg #[.string ⟨ty.toArray⟩, .string ⟨id.toArray⟩, .slice ak ks.length ck, .slice av vs.length cv])), (fun v w1 => Bytes w1 v (encE ty id ks vs)), (fun v _ => v = (.string ⟨(encE ty id ks vs).toArray⟩)), (fun v _ => v = (.bool true)), (fun v _ => v = (.bool true)), (fun v _ => v = (.bool true)), (fun v _ => v = (.pointer (some ⟨wr.heap.size, 0, none⟩))), (fun v _ => v = (.bool true)), (fun v _ => v = (.bool true)), (fun v _ => v = (.bool true)), (fun v _ => v = (.bool true)), (fun v _ => v = (.bool true)), (fun v _ => v = (.bool false)), (fun v _ => v = (.bool false)), (fun v _ => v = (.agg #[.string ⟨ty.toArray⟩, .string ⟨id.toArray⟩, .slice ak ks.length ck, .slice av vs.length cv])), (fun v _ => v = (.agg #[.string ⟨ty.toArray⟩, .string ⟨id.toArray⟩, .slice ak' ks.length ck', .slice av' vs.length cv'])), (fun v _ => v = (.bool true)), (fun v _ => v = (.bool true)), (fun v _ => v = (.bool true))] rfl ⟨?_, ?_, ?_, ?_, ?_, ?_, ?_, ?_, ?_, ?_, ?_, ?_, ?_, ?_, ?_, ?_, ?_, ?_, ?_, ?_, ?_, trivial⟩ _ rfl ⟨?_, ?_, ?_, ?_, ?_, ?_, ?_, ?_, ?_, ?_, ?_, ?_, ?_, ?_, ?_, ?_, ?_, ?_, ?_, ?_, ?_, trivial⟩ ?_
        · exact Stable.is _ _
        · exact Stable.is _ _
        · exact Stable.is _ _
        · exact (fun v w1 w2 h ho => h.still ho)
        · exact Stable.is _ _
        · exact Stable.is _ _
        · exact Stable.is _ _
        · exact Stable.is _ _
        · exact Stable.is _ _
        · exact Stable.is _ _
        · exact Stable.is _ _
        · exact Stable.is _ _
        · exact Stable.is _ _
        · exact Stable.is _ _
        · exact Stable.is _ _
        · exact Stable.is _ _
        · exact Stable.is _ _
        · exact Stable.is _ _
        · exact Stable.is _ _
        · exact Stable.is _ _
        · exact Stable.is _ _
        · intro x wx ox hN TT HTT
          clear hN
          unfold StepTo
          simp only [putAll, Act.put, List.setIfInBounds_toArray, List.set_cons_succ, List.set_cons_zero]
          go_wp2_with fail
          exact ⟨rfl, _, rfl, HTT.out _ _ (rfl) (Only.refl _ _)⟩
        · intro x wx ox hN TT HTT
          have r71 : x 0 = (.slice a6 (encE ty id ks vs).length c6) := hN.1 rfl
          clear hN
          unfold StepTo
          simp only [putAll, Act.put, List.setIfInBounds_toArray, List.set_cons_succ, List.set_cons_zero, r71]
          clear r71
          have hcv := (HU10.out wx ((((Only.refl _ w10).drew)).trans ox)).2.2.2.conv
          go_wp2_with fail
          exact ⟨rfl, _, rfl, HTT.out _ _ (rfl) (Only.refl _ _)⟩
        · intro x wx ox hN TT HTT
          clear hN
          unfold StepTo
          simp only [putAll, Act.put, List.setIfInBounds_toArray, List.set_cons_succ, List.set_cons_zero]
          obtain ⟨x0, x1, x2, x3⟩ := box4 (HX10.out wx ((((Only.refl _ w10).drew)).trans ox)).1
          go_wp2_with fail
          exact ⟨rfl, _, rfl, HTT.out _ _ (rfl) (Only.refl _ _)⟩
        · intro x wx ox hN TT HTT
          have r73 : x 2 = (.agg #[.string ⟨ty.toArray⟩, .string ⟨id.toArray⟩, .slice ak ks.length ck, .slice av vs.length cv]) := hN.1 rfl
          clear hN
          unfold StepTo
          simp only [putAll, Act.put, List.setIfInBounds_toArray, List.set_cons_succ, List.set_cons_zero, r73]
          clear r73
          have hc := rEntityR ty id ks vs ak av ck cv _ wx (HX10.out wx ((((Only.refl _ w10).drew)).trans ox)).2 HGD.out (by have := HTY.out; omega) (by have := HID.out; omega) (by have := HLEN.out; omega)
          have HC := Lib.hid hc; clear hc
          go_wp2_with fail
          refine HC.out.mono ?_
          rintro e w6' ⟨v6', rfl, h6, o6⟩
          go_wp2_with fail
          exact ⟨rfl, _, rfl, HTT.out _ _ (h6.bytes) (o6)⟩
        · intro x wx ox hN TT HTT
          have r74 : (fun (v : Value) (w1 : World) => Bytes w1 v (encE ty id ks vs)) (x 3) wx := hN.1 rfl
          clear hN
          unfold StepTo
          simp only [putAll, Act.put, List.setIfInBounds_toArray, List.set_cons_succ, List.set_cons_zero]
          have hcv := r74.conv
          go_wp2_with fail
          exact ⟨rfl, _, rfl, HTT.out _ _ (rfl) (Only.refl _ _)⟩
        · intro x wx ox hN TT HTT
          have r72 : x 1 = (.string ⟨(encE ty id ks vs).toArray⟩) := hN.1 rfl
          have r75 : x 4 = (.string ⟨(encE ty id ks vs).toArray⟩) := hN.2.1 rfl
          clear hN
          unfold StepTo
          simp only [putAll, Act.put, List.setIfInBounds_toArray, List.set_cons_succ, List.set_cons_zero, r72, r75]
          clear r72 r75
          go_wp2_with fail
          exact ⟨rfl, _, rfl, HTT.out _ _ (rfl) (Only.refl _ _)⟩
        · intro x wx ox hN TT HTT
          have r76 : x 5 = (.bool true) := hN.1 rfl
          have r74 : (fun (v : Value) (w1 : World) => Bytes w1 v (encE ty id ks vs)) (x 3) wx := hN.2.1 rfl
          clear hN
          unfold StepTo
          simp only [putAll, Act.put, List.setIfInBounds_toArray, List.set_cons_succ, List.set_cons_zero, r76]
          clear r76
          go_wp2_with fail
          exact ⟨rfl, _, rfl, HTT.out _ _ (rfl) (Only.refl _ _)⟩
        · intro x wx ox hN TT HTT
          have r77 : x 6 = (.bool true) := hN.1 rfl
          clear hN
          unfold StepTo
          simp only [putAll, Act.put, List.setIfInBounds_toArray, List.set_cons_succ, List.set_cons_zero, r77]
          clear r77
          go_wp2_with fail
          exact ⟨rfl, _, rfl, HTT.out _ _ (rfl) (Only.refl _ _)⟩
        · intro x wx ox hN TT HTT
          have r77 : x 6 = (.bool true) := hN.1 rfl
          clear hN
          unfold StepTo
          simp only [putAll, Act.put, List.setIfInBounds_toArray, List.set_cons_succ, List.set_cons_zero, r77]
          clear r77
          go_wp2_with fail
          exact ⟨rfl, _, rfl, HTT.out _ _ (rfl) (Only.refl _ _)⟩
        · intro x wx ox hN TT HTT
          have r79 : x 8 = (.pointer (some ⟨wr.heap.size, 0, none⟩)) := hN.1 rfl
          have r77 : x 6 = (.bool true) := hN.2.1 rfl
          clear hN
          unfold StepTo
          simp only [putAll, Act.put, List.setIfInBounds_toArray, List.set_cons_succ, List.set_cons_zero, r79, r77]
          clear r79 r77
          have hE := end_any wr.heap.size [] false wx (HU10.out wx ((((Only.refl _ w10).drew)).trans ox)).2.2.1
          have HE := Lib.hid hE; clear hE
          go_wp2_with fail
          refine HE.out.mono ?_
          rintro e w6' ⟨rfl, rfl⟩
          go_wp2_with fail
          exact ⟨rfl, _, rfl, HTT.out _ _ (rfl) (Only.refl _ _)⟩
        · intro x wx ox hN TT HTT
          have r78 : x 7 = (.bool true) := hN.1 rfl
          have r80 : x 9 = (.bool true) := hN.2.1 rfl
          have r77 : x 6 = (.bool true) := hN.2.2.1 rfl
          clear hN
          unfold StepTo
          simp only [putAll, Act.put, List.setIfInBounds_toArray, List.set_cons_succ, List.set_cons_zero, r78, r80, r77]
          clear r78 r80 r77
          go_wp2_with fail
          exact ⟨rfl, _, rfl, HTT.out _ _ (rfl) (Only.refl _ _)⟩
        · intro x wx ox hN TT HTT
          have r77 : x 6 = (.bool true) := hN.1 rfl
          have r81 : x 10 = (.bool true) := hN.2.1 rfl
          clear hN
          unfold StepTo
          simp only [putAll, Act.put, List.setIfInBounds_toArray, List.set_cons_succ, List.set_cons_zero, r77, r81]
          clear r77 r81
          go_wp2_with fail
          exact ⟨rfl, _, rfl, HTT.out _ _ (rfl) (Only.refl _ _)⟩
        · intro x wx ox hN TT HTT
          have r82 : x 11 = (.bool true) := hN.1 rfl
          have r80 : x 9 = (.bool true) := hN.2.1 rfl
          clear hN
          unfold StepTo
          simp only [putAll, Act.put, List.setIfInBounds_toArray, List.set_cons_succ, List.set_cons_zero, r82, r80]
          clear r82 r80
          go_wp2_with fail
          exact ⟨rfl, _, rfl, HTT.out _ _ (rfl) (Only.refl _ _)⟩
        · intro x wx ox hN TT HTT
          have r83 : x 12 = (.bool true) := hN.1 rfl
          clear hN
          unfold StepTo
          simp only [putAll, Act.put, List.setIfInBounds_toArray, List.set_cons_succ, List.set_cons_zero, r83]
          clear r83
          go_wp2_with fail
          exact ⟨rfl, _, rfl, HTT.out _ _ (rfl) (Only.refl _ _)⟩
        · intro x wx ox hN TT HTT
          have r84 : x 13 = (.bool true) := hN.1 rfl
          have r83 : x 12 = (.bool true) := hN.2.1 rfl
          clear hN
          unfold StepTo
          simp only [putAll, Act.put, List.setIfInBounds_toArray, List.set_cons_succ, List.set_cons_zero, r84, r83]
          clear r84 r83
          go_wp2_with fail
          exact ⟨rfl, _, rfl, HTT.out _ _ (rfl) (Only.refl _ _)⟩
        · intro x wx ox hN TT HTT
          have r85 : x 14 = (.bool false) := hN.1 rfl
          have r83 : x 12 = (.bool true) := hN.2.1 rfl
          clear hN
          unfold StepTo
          simp only [putAll, Act.put, List.setIfInBounds_toArray, List.set_cons_succ, List.set_cons_zero, r85, r83]
          clear r85 r83
          go_wp2_with fail
          exact ⟨rfl, _, rfl, HTT.out _ _ (rfl) (Only.refl _ _)⟩
        · intro x wx ox hN TT HTT
          have r86 : x 15 = (.bool false) := hN.1 rfl
          clear hN
          unfold StepTo
          simp only [putAll, Act.put, List.setIfInBounds_toArray, List.set_cons_succ, List.set_cons_zero, r86]
          clear r86
          obtain ⟨x0, x1, x2, x3⟩ := box4 (HX10.out wx ((((Only.refl _ w10).drew)).trans ox)).1
          go_wp2_with fail
          exact ⟨rfl, _, rfl, HTT.out _ _ (rfl) (Only.refl _ _)⟩
        · intro x wx ox hN TT HTT
          have r86 : x 15 = (.bool false) := hN.1 rfl
          clear hN
          unfold StepTo
          simp only [putAll, Act.put, List.setIfInBounds_toArray, List.set_cons_succ, List.set_cons_zero, r86]
          clear r86
          obtain ⟨x0, x1, x2, x3⟩ := box4 (HU10.out wx ((((Only.refl _ w10).drew)).trans ox)).1
          go_wp2_with fail
          exact ⟨rfl, _, rfl, HTT.out _ _ (rfl) (Only.refl _ _)⟩
        · intro x wx ox hN TT HTT
          have r87 : x 16 = (.agg #[.string ⟨ty.toArray⟩, .string ⟨id.toArray⟩, .slice ak ks.length ck, .slice av vs.length cv]) := hN.1 rfl
          have r88 : x 17 = (.agg #[.string ⟨ty.toArray⟩, .string ⟨id.toArray⟩, .slice ak' ks.length ck', .slice av' vs.length cv']) := hN.2.1 rfl
          have r86 : x 15 = (.bool false) := hN.2.2.1 rfl
          clear hN
          unfold StepTo
          simp only [putAll, Act.put, List.setIfInBounds_toArray, List.set_cons_succ, List.set_cons_zero, r87, r88, r86]
          clear r87 r88 r86
          have hc := sameEnt ty id ks vs ak av ak' av' ck cv ck' cv' _ _ wx (HX10.out wx ((((Only.refl _ w10).drew)).trans ox)).2 (HU10.out wx ((((Only.refl _ w10).drew)).trans ox)).2.1
          have HC := Lib.hid hc; clear hc
          go_wp2_with fail
          refine HC.out.mono ?_
          rintro e w6' ⟨rfl, o6⟩
          go_wp2_with fail
          exact ⟨rfl, _, rfl, HTT.out _ _ (rfl) (o6)⟩
        · intro x wx ox hN TT HTT
          have r86 : x 15 = (.bool false) := hN.1 rfl
          have r89 : x 18 = (.bool true) := hN.2.1 rfl
          have r83 : x 12 = (.bool true) := hN.2.2.1 rfl
          clear hN
          unfold StepTo
          simp only [putAll, Act.put, List.setIfInBounds_toArray, List.set_cons_succ, List.set_cons_zero, r86, r89, r83]
          clear r86 r89 r83
          go_wp2_with fail
          exact ⟨rfl, _, rfl, HTT.out _ _ (rfl) (Only.refl _ _)⟩
        · intro x wx ox hN TT HTT
          have r83 : x 12 = (.bool true) := hN.1 rfl
          have r90 : x 19 = (.bool true) := hN.2.1 rfl
          clear hN
          unfold StepTo
          simp only [putAll, Act.put, List.setIfInBounds_toArray, List.set_cons_succ, List.set_cons_zero, r83, r90]
          clear r83 r90
          go_wp2_with fail
          exact ⟨rfl, _, rfl, HTT.out _ _ (rfl) (Only.refl _ _)⟩
        · intro x wx ox hN
          have r71 : x 0 = (.slice a6 (encE ty id ks vs).length c6) := hN.1
          have r72 : x 1 = (.string ⟨(encE ty id ks vs).toArray⟩) := hN.2.1
          have r73 : x 2 = (.agg #[.string ⟨ty.toArray⟩, .string ⟨id.toArray⟩, .slice ak ks.length ck, .slice av vs.length cv]) := hN.2.2.1
          have r74 : (fun (v : Value) (w1 : World) => Bytes w1 v (encE ty id ks vs)) (x 3) wx := hN.2.2.2.1
          have r75 : x 4 = (.string ⟨(encE ty id ks vs).toArray⟩) := hN.2.2.2.2.1
          have r76 : x 5 = (.bool true) := hN.2.2.2.2.2.1
          have r77 : x 6 = (.bool true) := hN.2.2.2.2.2.2.1
          have r78 : x 7 = (.bool true) := hN.2.2.2.2.2.2.2.1
          have r79 : x 8 = (.pointer (some ⟨wr.heap.size, 0, none⟩)) := hN.2.2.2.2.2.2.2.2.1
          have r80 : x 9 = (.bool true) := hN.2.2.2.2.2.2.2.2.2.1
          have r81 : x 10 = (.bool true) := hN.2.2.2.2.2.2.2.2.2.2.1
          have r82 : x 11 = (.bool true) := hN.2.2.2.2.2.2.2.2.2.2.2.1
          have r83 : x 12 = (.bool true) := hN.2.2.2.2.2.2.2.2.2.2.2.2.1
          have r84 : x 13 = (.bool true) := hN.2.2.2.2.2.2.2.2.2.2.2.2.2.1
          have r85 : x 14 = (.bool false) := hN.2.2.2.2.2.2.2.2.2.2.2.2.2.2.1
          have r86 : x 15 = (.bool false) := hN.2.2.2.2.2.2.2.2.2.2.2.2.2.2.2.1
          have r87 : x 16 = (.agg #[.string ⟨ty.toArray⟩, .string ⟨id.toArray⟩, .slice ak ks.length ck, .slice av vs.length cv]) := hN.2.2.2.2.2.2.2.2.2.2.2.2.2.2.2.2.1
          have r88 : x 17 = (.agg #[.string ⟨ty.toArray⟩, .string ⟨id.toArray⟩, .slice ak' ks.length ck', .slice av' vs.length cv']) := hN.2.2.2.2.2.2.2.2.2.2.2.2.2.2.2.2.2.1
          have r89 : x 18 = (.bool true) := hN.2.2.2.2.2.2.2.2.2.2.2.2.2.2.2.2.2.2.1
          have r90 : x 19 = (.bool true) := hN.2.2.2.2.2.2.2.2.2.2.2.2.2.2.2.2.2.2.2.1
          have r91 : x 20 = (.bool true) := hN.2.2.2.2.2.2.2.2.2.2.2.2.2.2.2.2.2.2.2.2.1
          clear hN
          simp only [putAll, Act.put, List.setIfInBounds_toArray, List.set_cons_succ, List.set_cons_zero, r71, r72, r73, r75, r76, r77, r78, r79, r80, r81, r82, r83, r84, r85, r86, r87, r88, r89, r90, r91]
          clear r71 r72 r73 r75 r76 r77 r78 r79 r80 r81 r82 r83 r84 r85 r86 r87 r88 r89 r90 r91
          go_wp2_with fail
          go_ret
          exact ⟨rfl, (HALL.out.trans ((((Only.refl _ w10).drew)).trans ox)).still⟩
      | false =>
        have hri : ¬ Rising ks := fun h => by have := HRS.out.2 h; cases this
        have hβ : β9 = true := by
          cases β9 with
          | true => rfl
          | false =>
            obtain ⟨e1, e2, e3, e4, e5, e6⟩ := HONLY.out _ _ _ _ _ (K1.out rfl).2
            exact absurd e6 hri
        subst hβ
        clear hri
        refine wp_region_steps 21 (by kernel_rfl) rfl (by kernel_rfl) [some 71, some 72, some 73, some 74, some 75, some 76, some 77, some 78, some 79, some 80, some 81, some 82, some 83, some 84, some 85, some 86, some 87, some 88, some 89, some 90, some 91] rfl rfl (fun _ => False) [(fun v _ => v = (.slice a6 (encE ty id ks vs).length c6)), (fun v _ => v = (.string ⟨(encE ty id ks vs).toArray⟩)), (fun v _ => v = (.agg #[.string ⟨ty.toArray⟩, .string ⟨id.toArray⟩, .slice ak ks.length ck, .slice av vs.length cv])), (fun v w1 => Bytes w1 v (encE ty id ks vs)), (fun v _ => v = (.string ⟨(encE ty id ks vs).toArray⟩)), (fun v _ => v = (.bool true)), (fun v _ => v = (.bool true)), (fun v _ => v = (.bool false)), (fun v _ => v = (.pointer (some ⟨wr.heap.size, 0, none⟩))), (fun v _ => v = (.bool false)), (fun v _ => v = (.bool true)), (fun v _ => v = (.bool true)), (fun v _ => v = (.bool true)), (fun v _ => v = (.bool false)), (fun v _ => v = (.bool true)), (fun v _ => v = (.bool true)), (fun v w1 => True), (fun v w1 => True), (fun v w1 => True), (fun v _ => v = (.bool true)), (fun v _ => v = (.bool true))] rfl ⟨?_, ?_, ?_, ?_, ?_, ?_, ?_, ?_, ?_, ?_, ?_, ?_, ?_, ?_, ?_, ?_, ?_, ?_, ?_, ?_, ?_, trivial⟩ _ rfl ⟨?_, ?_, ?_, ?_, ?_, ?_, ?_, ?_, ?_, ?_, ?_, ?_, ?_, ?_, ?_, ?_, ?_, ?_, ?_, ?_, ?_, trivial⟩ ?_
        · exact Stable.is _ _
        · exact Stable.is _ _
        · exact Stable.is _ _
        · exact (fun v w1 w2 h ho => h.still ho)
        · exact Stable.is _ _
        · exact Stable.is _ _
        · exact Stable.is _ _
        · exact Stable.is _ _
        · exact Stable.is _ _
        · exact Stable.is _ _
        · exact Stable.is _ _
        · exact Stable.is _ _
        · exact Stable.is _ _
        · exact Stable.is _ _
        · exact Stable.is _ _
        · exact Stable.is _ _
        · intro v w1 w2 h ho; exact h
        · intro v w1 w2 h ho; exact h
        · intro v w1 w2 h ho; exact h
        · exact Stable.is _ _
        · exact Stable.is _ _
        · intro x wx ox hN TT HTT
          clear hN
          unfold StepTo
          simp only [putAll, Act.put, List.setIfInBounds_toArray, List.set_cons_succ, List.set_cons_zero]
          go_wp2_with fail
          exact ⟨rfl, _, rfl, HTT.out _ _ (rfl) (Only.refl _ _)⟩
        · intro x wx ox hN TT HTT
          have r71 : x 0 = (.slice a6 (encE ty id ks vs).length c6) := hN.1 rfl
          clear hN
          unfold StepTo
          simp only [putAll, Act.put, List.setIfInBounds_toArray, List.set_cons_succ, List.set_cons_zero, r71]
          clear r71
          have hcv := (HU10.out wx ((((Only.refl _ w10).drew)).trans ox)).2.2.2.conv
          go_wp2_with fail
          exact ⟨rfl, _, rfl, HTT.out _ _ (rfl) (Only.refl _ _)⟩
        · intro x wx ox hN TT HTT
          clear hN
          unfold StepTo
          simp only [putAll, Act.put, List.setIfInBounds_toArray, List.set_cons_succ, List.set_cons_zero]
          obtain ⟨x0, x1, x2, x3⟩ := box4 (HX10.out wx ((((Only.refl _ w10).drew)).trans ox)).1
          go_wp2_with fail
          exact ⟨rfl, _, rfl, HTT.out _ _ (rfl) (Only.refl _ _)⟩
        · intro x wx ox hN TT HTT
          have r73 : x 2 = (.agg #[.string ⟨ty.toArray⟩, .string ⟨id.toArray⟩, .slice ak ks.length ck, .slice av vs.length cv]) := hN.1 rfl
          clear hN
          unfold StepTo
          simp only [putAll, Act.put, List.setIfInBounds_toArray, List.set_cons_succ, List.set_cons_zero, r73]
          clear r73
          have hc := rEntityR ty id ks vs ak av ck cv _ wx (HX10.out wx ((((Only.refl _ w10).drew)).trans ox)).2 HGD.out (by have := HTY.out; omega) (by have := HID.out; omega) (by have := HLEN.out; omega)
          have HC := Lib.hid hc; clear hc
          go_wp2_with fail
          refine HC.out.mono ?_
          rintro e w6' ⟨v6', rfl, h6, o6⟩
          go_wp2_with fail
          exact ⟨rfl, _, rfl, HTT.out _ _ (h6.bytes) (o6)⟩
        · intro x wx ox hN TT HTT
          have r74 : (fun (v : Value) (w1 : World) => Bytes w1 v (encE ty id ks vs)) (x 3) wx := hN.1 rfl
          clear hN
          unfold StepTo
          simp only [putAll, Act.put, List.setIfInBounds_toArray, List.set_cons_succ, List.set_cons_zero]
          have hcv := r74.conv
          go_wp2_with fail
          exact ⟨rfl, _, rfl, HTT.out _ _ (rfl) (Only.refl _ _)⟩
        · intro x wx ox hN TT HTT
          have r72 : x 1 = (.string ⟨(encE ty id ks vs).toArray⟩) := hN.1 rfl
          have r75 : x 4 = (.string ⟨(encE ty id ks vs).toArray⟩) := hN.2.1 rfl
          clear hN
          unfold StepTo
          simp only [putAll, Act.put, List.setIfInBounds_toArray, List.set_cons_succ, List.set_cons_zero, r72, r75]
          clear r72 r75
          go_wp2_with fail
          exact ⟨rfl, _, rfl, HTT.out _ _ (rfl) (Only.refl _ _)⟩
        · intro x wx ox hN TT HTT
          have r76 : x 5 = (.bool true) := hN.1 rfl
          have r74 : (fun (v : Value) (w1 : World) => Bytes w1 v (encE ty id ks vs)) (x 3) wx := hN.2.1 rfl
          clear hN
          unfold StepTo
          simp only [putAll, Act.put, List.setIfInBounds_toArray, List.set_cons_succ, List.set_cons_zero, r76]
          clear r76
          go_wp2_with fail
          exact ⟨rfl, _, rfl, HTT.out _ _ (rfl) (Only.refl _ _)⟩
        · intro x wx ox hN TT HTT
          have r77 : x 6 = (.bool true) := hN.1 rfl
          clear hN
          unfold StepTo
          simp only [putAll, Act.put, List.setIfInBounds_toArray, List.set_cons_succ, List.set_cons_zero, r77]
          clear r77
          go_wp2_with fail
          exact ⟨rfl, _, rfl, HTT.out _ _ (rfl) (Only.refl _ _)⟩
        · intro x wx ox hN TT HTT
          have r77 : x 6 = (.bool true) := hN.1 rfl
          clear hN
          unfold StepTo
          simp only [putAll, Act.put, List.setIfInBounds_toArray, List.set_cons_succ, List.set_cons_zero, r77]
          clear r77
          go_wp2_with fail
          exact ⟨rfl, _, rfl, HTT.out _ _ (rfl) (Only.refl _ _)⟩
        · intro x wx ox hN TT HTT
          have r79 : x 8 = (.pointer (some ⟨wr.heap.size, 0, none⟩)) := hN.1 rfl
          have r77 : x 6 = (.bool true) := hN.2.1 rfl
          clear hN
          unfold StepTo
          simp only [putAll, Act.put, List.setIfInBounds_toArray, List.set_cons_succ, List.set_cons_zero, r79, r77]
          clear r79 r77
          have hE := end_any wr.heap.size r9 true wx (HU10.out wx ((((Only.refl _ w10).drew)).trans ox)).2.2.1
          have HE := Lib.hid hE; clear hE
          go_wp2_with fail
          refine HE.out.mono ?_
          rintro e w6' ⟨rfl, rfl⟩
          go_wp2_with fail
          exact ⟨rfl, _, rfl, HTT.out _ _ (rfl) (Only.refl _ _)⟩
        · intro x wx ox hN TT HTT
          have r78 : x 7 = (.bool false) := hN.1 rfl
          have r80 : x 9 = (.bool false) := hN.2.1 rfl
          have r77 : x 6 = (.bool true) := hN.2.2.1 rfl
          clear hN
          unfold StepTo
          simp only [putAll, Act.put, List.setIfInBounds_toArray, List.set_cons_succ, List.set_cons_zero, r78, r80, r77]
          clear r78 r80 r77
          go_wp2_with fail
          exact ⟨rfl, _, rfl, HTT.out _ _ (rfl) (Only.refl _ _)⟩
        · intro x wx ox hN TT HTT
          have r77 : x 6 = (.bool true) := hN.1 rfl
          have r81 : x 10 = (.bool true) := hN.2.1 rfl
          clear hN
          unfold StepTo
          simp only [putAll, Act.put, List.setIfInBounds_toArray, List.set_cons_succ, List.set_cons_zero, r77, r81]
          clear r77 r81
          go_wp2_with fail
          exact ⟨rfl, _, rfl, HTT.out _ _ (rfl) (Only.refl _ _)⟩
        · intro x wx ox hN TT HTT
          have r82 : x 11 = (.bool true) := hN.1 rfl
          have r80 : x 9 = (.bool false) := hN.2.1 rfl
          clear hN
          unfold StepTo
          simp only [putAll, Act.put, List.setIfInBounds_toArray, List.set_cons_succ, List.set_cons_zero, r82, r80]
          clear r82 r80
          go_wp2_with fail
          exact ⟨rfl, _, rfl, HTT.out _ _ (rfl) (Only.refl _ _)⟩
        · intro x wx ox hN TT HTT
          have r83 : x 12 = (.bool true) := hN.1 rfl
          clear hN
          unfold StepTo
          simp only [putAll, Act.put, List.setIfInBounds_toArray, List.set_cons_succ, List.set_cons_zero, r83]
          clear r83
          go_wp2_with fail
          exact ⟨rfl, _, rfl, HTT.out _ _ (rfl) (Only.refl _ _)⟩
        · intro x wx ox hN TT HTT
          have r84 : x 13 = (.bool false) := hN.1 rfl
          have r83 : x 12 = (.bool true) := hN.2.1 rfl
          clear hN
          unfold StepTo
          simp only [putAll, Act.put, List.setIfInBounds_toArray, List.set_cons_succ, List.set_cons_zero, r84, r83]
          clear r84 r83
          go_wp2_with fail
          exact ⟨rfl, _, rfl, HTT.out _ _ (rfl) (Only.refl _ _)⟩
        · intro x wx ox hN TT HTT
          have r85 : x 14 = (.bool true) := hN.1 rfl
          have r83 : x 12 = (.bool true) := hN.2.1 rfl
          clear hN
          unfold StepTo
          simp only [putAll, Act.put, List.setIfInBounds_toArray, List.set_cons_succ, List.set_cons_zero, r85, r83]
          clear r85 r83
          go_wp2_with fail
          exact ⟨rfl, _, rfl, HTT.out _ _ (rfl) (Only.refl _ _)⟩
        · intro x wx ox hN TT HTT
          have r86 : x 15 = (.bool true) := hN.1 rfl
          clear hN
          unfold StepTo
          simp only [putAll, Act.put, List.setIfInBounds_toArray, List.set_cons_succ, List.set_cons_zero, r86]
          clear r86
          go_wp2_with fail
          exact ⟨rfl, _, rfl, HTT.out _ _ (trivial) (Only.refl _ _)⟩
        · intro x wx ox hN TT HTT
          have r86 : x 15 = (.bool true) := hN.1 rfl
          clear hN
          unfold StepTo
          simp only [putAll, Act.put, List.setIfInBounds_toArray, List.set_cons_succ, List.set_cons_zero, r86]
          clear r86
          go_wp2_with fail
          exact ⟨rfl, _, rfl, HTT.out _ _ (trivial) (Only.refl _ _)⟩
        · intro x wx ox hN TT HTT
          have r87 : (fun (v : Value) (w1 : World) => True) (x 16) wx := hN.1 rfl
          have r88 : (fun (v : Value) (w1 : World) => True) (x 17) wx := hN.2.1 rfl
          have r86 : x 15 = (.bool true) := hN.2.2.1 rfl
          clear hN
          unfold StepTo
          simp only [putAll, Act.put, List.setIfInBounds_toArray, List.set_cons_succ, List.set_cons_zero, r86]
          clear r86
          go_wp2_with fail
          exact ⟨rfl, _, rfl, HTT.out _ _ (trivial) (Only.refl _ _)⟩
        · intro x wx ox hN TT HTT
          have r86 : x 15 = (.bool true) := hN.1 rfl
          have r89 : (fun (v : Value) (w1 : World) => True) (x 18) wx := hN.2.1 rfl
          have r83 : x 12 = (.bool true) := hN.2.2.1 rfl
          clear hN
          unfold StepTo
          simp only [putAll, Act.put, List.setIfInBounds_toArray, List.set_cons_succ, List.set_cons_zero, r86, r83]
          clear r86 r83
          go_wp2_with fail
          exact ⟨rfl, _, rfl, HTT.out _ _ (rfl) (Only.refl _ _)⟩
        · intro x wx ox hN TT HTT
          have r83 : x 12 = (.bool true) := hN.1 rfl
          have r90 : x 19 = (.bool true) := hN.2.1 rfl
          clear hN
          unfold StepTo
          simp only [putAll, Act.put, List.setIfInBounds_toArray, List.set_cons_succ, List.set_cons_zero, r83, r90]
          clear r83 r90
          go_wp2_with fail
          exact ⟨rfl, _, rfl, HTT.out _ _ (rfl) (Only.refl _ _)⟩
        · intro x wx ox hN
          have r71 : x 0 = (.slice a6 (encE ty id ks vs).length c6) := hN.1
          have r72 : x 1 = (.string ⟨(encE ty id ks vs).toArray⟩) := hN.2.1
          have r73 : x 2 = (.agg #[.string ⟨ty.toArray⟩, .string ⟨id.toArray⟩, .slice ak ks.length ck, .slice av vs.length cv]) := hN.2.2.1
          have r74 : (fun (v : Value) (w1 : World) => Bytes w1 v (encE ty id ks vs)) (x 3) wx := hN.2.2.2.1
          have r75 : x 4 = (.string ⟨(encE ty id ks vs).toArray⟩) := hN.2.2.2.2.1
          have r76 : x 5 = (.bool true) := hN.2.2.2.2.2.1
          have r77 : x 6 = (.bool true) := hN.2.2.2.2.2.2.1
          have r78 : x 7 = (.bool false) := hN.2.2.2.2.2.2.2.1
          have r79 : x 8 = (.pointer (some ⟨wr.heap.size, 0, none⟩)) := hN.2.2.2.2.2.2.2.2.1
          have r80 : x 9 = (.bool false) := hN.2.2.2.2.2.2.2.2.2.1
          have r81 : x 10 = (.bool true) := hN.2.2.2.2.2.2.2.2.2.2.1
          have r82 : x 11 = (.bool true) := hN.2.2.2.2.2.2.2.2.2.2.2.1
          have r83 : x 12 = (.bool true) := hN.2.2.2.2.2.2.2.2.2.2.2.2.1
          have r84 : x 13 = (.bool false) := hN.2.2.2.2.2.2.2.2.2.2.2.2.2.1
          have r85 : x 14 = (.bool true) := hN.2.2.2.2.2.2.2.2.2.2.2.2.2.2.1
          have r86 : x 15 = (.bool true) := hN.2.2.2.2.2.2.2.2.2.2.2.2.2.2.2.1
          have r87 : (fun (v : Value) (w1 : World) => True) (x 16) wx := hN.2.2.2.2.2.2.2.2.2.2.2.2.2.2.2.2.1
          have r88 : (fun (v : Value) (w1 : World) => True) (x 17) wx := hN.2.2.2.2.2.2.2.2.2.2.2.2.2.2.2.2.2.1
          have r89 : (fun (v : Value) (w1 : World) => True) (x 18) wx := hN.2.2.2.2.2.2.2.2.2.2.2.2.2.2.2.2.2.2.1
          have r90 : x 19 = (.bool true) := hN.2.2.2.2.2.2.2.2.2.2.2.2.2.2.2.2.2.2.2.1
          have r91 : x 20 = (.bool true) := hN.2.2.2.2.2.2.2.2.2.2.2.2.2.2.2.2.2.2.2.2.1
          clear hN
          simp only [putAll, Act.put, List.setIfInBounds_toArray, List.set_cons_succ, List.set_cons_zero, r71, r72, r73, r75, r76, r77, r78, r79, r80, r81, r82, r83, r84, r85, r86, r90, r91]
          clear r71 r72 r73 r75 r76 r77 r78 r79 r80 r81 r82 r83 r84 r85 r86 r90 r91
          go_wp2_with fail
          go_ret
          exact ⟨rfl, (HALL.out.trans ((((Only.refl _ w10).drew)).trans ox)).still⟩
theorem ents_walk (v0 : Value) (w : World) {H : Type} {enc : TypeId × Value → H} {d0 : DataW H} {p0 : List MemPlace} {b0 : Nat}
    (h0 : DataW.Trod enc Try.prog w 0 (fun _ => true) true 69 v0 d0 p0) (g0 : Value.okWide Try.prog w .any b0 69 v0) :
    Calls Try.prog 12 #[v0] w fun e w' => e = .returned (.bool true) ∧ Below w.heap.size w w' := by
  obtain ⟨ty, id, ks, vs, cs, rfl, ak, av, ck, cv, rfl, h1, h2, h3⟩ := entity_of_Trod h0
  exact ents0 ty id ks vs ak av ck cv w h1 h2 h3
end Go.Proofs.Ytoojnpafcdaflaa
