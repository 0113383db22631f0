/- columbarylaw03.WireKeeps: the walk. -/
import Derived.Test.YtoojnpafcdaflaaAwk
import Derived.Test.YtoojnpafcdaflaaSea
import Derived.Deep.RegionHeld3
import Derived.Deep.RegionWith
namespace Go.Proofs.Ytoojnpafcdaflaa
open Go Go.RowKit
set_option linter.unusedVariables false
set_option linter.unusedSimpArgs false

theorem WS.moved {F S : Nat → Prop} {b : Nat} {w w' : World} {l : List UInt8} (h : WS F b w l w) (hF : ∀ q, F q → q < w.heap.size) (ho : Only S w w') (hS : ∀ q, F q → ¬ S q) : WS F b w' l w' := by
  obtain ⟨F1, h1, h2, h3⟩ := h
  have hx : ∀ q, F1 q → F q := fun q hq => (h2 q hq).2.resolve_right (by have := (h2 q hq).1; omega)
  exact ⟨F1, h1.only ho (fun q hq _ => hS q (hx q hq)), fun q hq => ⟨Nat.lt_of_lt_of_le (h2 q hq).1 ho.size, .inl (hx q hq)⟩, Only.refl _ _⟩
theorem Bytes.pre {w : World} {a : Option Addr} {n c m : Nat} {l : List UInt8} (h : Bytes w (.slice a n c) l) (hm : m ≤ l.length) : Bytes w (.slice a m c) (l.take m) := by
  obtain ⟨a', c', e, h1, h2, h3⟩ := h
  cases e
  have hl : (l.take m).length = m := by rw [List.length_take]; omega
  refine ⟨_, _, by rw [hl], by omega, h2, fun hp => ?_⟩
  obtain ⟨b, off, rfl, hb, hr⟩ := h3 (by omega)
  exact ⟨b, off, rfl, hb, fun j v hv => hr j v (by
    rw [u8s_take, List.getElem?_take] at hv
    by_cases hj : j < m
    · rw [if_pos hj] at hv; exact hv
    · rw [if_neg hj] at hv; cases hv)⟩
theorem str_list (s : ByteArray) : ∃ l : List UInt8, s = ⟨l.toArray⟩ ∧ l.length = s.size := ⟨s.data.toList, by cases s; simp, by cases s; simp [ByteArray.size]⟩
theorem str_size (l : List UInt8) : (⟨l.toArray⟩ : ByteArray).size = l.length := by simp [ByteArray.size]
theorem own8_head {w : World} {B : Nat} {v : Value} {l : List UInt8} (h : Own8 w B v l) (hl : 0 < l.length) : ∃ g c x, v = .slice (some ⟨g, 0, none⟩) l.length c ∧ l.length ≤ c ∧ B ≤ g ∧ g < w.heap.size ∧ w.cell? ⟨g, 0, none⟩ = some (.int .u8 x) ∧ w.frozen? ⟨g, 0, none⟩ = false ∧ 0 ≤ x ∧ x ≤ 255 := by
  have hb := h.bytes
  obtain ⟨a, c, hv, h1, h2⟩ := h
  rcases h2 with ⟨e, h0⟩ | ⟨g, cap, cur, e, hg, hh, h3, h4, h5, h6⟩
  · omega
  · obtain ⟨a', c', e2, g1, g2, g3⟩ := hb
    obtain ⟨b2, off, rfl, hlt, hr⟩ := g3 hl
    rw [e2] at e
    injection e with e3 e4 e5
    injection e3 with e3
    injection e3 with e6 e7 e8
    subst e6; subst e7; subst e5
    refine ⟨b2, c', (l[0].toNat : Int), e2, g1, hg, hlt, ?_, by simp [World.frozen?, hh], by omega, by have := l[0].toNat_lt; omega⟩
    exact hr 0 _ (by simp [u8s, hl])

set_option maxRecDepth 100000 in
set_option maxHeartbeats 4000000 in
theorem keeps0 (p q : List UInt8) (w : World) (hp : p.length ≤ 140737488351232) (hq : q.length ≤ 140737488351232) :
    Calls Try.prog 3 #[.string ⟨p.toArray⟩, .string ⟨q.toArray⟩] w fun e w' => e = .returned (.bool true) ∧ Below w.heap.size w w' := by
  have hp0 : (0 : Int) ≤ (p.length : Int) := by omega
  have hq0 : (0 : Int) ≤ (q.length : Int) := by omega
  have hpi : (p.length : Int) ≤ 140737488351232 := by omega
  have hqi : (q.length : Int) ≤ 140737488351232 := by omega
  by_cases hsum : p.length + q.length ≤ 3000
  · have t1 : decide ((3000 : Int) < (p.length : Int) + (q.length : Int)) = false := by simp; omega
    go_enter Try.func3, Try.ntmps3
    go_wp2_with fail
    refine (awake_any _).mono ?_
    rintro e w1 ⟨rfl, o1⟩
    have hA := heap_new w1 (.cells #[.slice none 0 0] 26)
    have oA := (Only.refl (fun _ => False) w1).alloc (.cells #[.slice none 0 0] 26)
    have hT : Calls Try.prog 18 #[.pointer (some ⟨w1.heap.size, 0, none⟩), .string ⟨p.toArray⟩] (w1.alloc (.cells #[.slice none 0 0] 26)) _ := wText_s p (fun q => q = w1.heap.size) w1.heap.size _ [] _ (WS.new hA) (by omega) (by simp)
    rw [List.nil_append] at hT
    have s01 : w.heap.size ≤ w1.heap.size := o1.size
    have HT := Lib.hid hT; have O1 := Lib.hid (o1.trans oA); clear hT hA oA o1
    have hE1 : (encT p).length ≤ 4000 := by have := encU_len10 (n := p.length) (by omega); unfold encT; rw [List.length_append]; omega
    have hE1p : 0 < (encT p).length := by have := encU_pos p.length; unfold encT; rw [List.length_append]; omega
    have hE2 : (encT q).length ≤ 4000 := by have := encU_len10 (n := q.length) (by omega); unfold encT; rw [List.length_append]; omega
    generalize hE : encT p = E1 at *
    have HE := Lib.hid hE; clear hE
    go_wp2_with fail
    refine HT.out.mono ?_
    rintro e w2 ⟨rfl, h2⟩
    have hD2 := wDone_s _ _ _ _ w2 h2 (by omega)
    have HD2 := Lib.hid hD2; have H2 := Lib.hid h2; clear hD2 h2
    go_wp2_with fail
    refine HD2.out.mono ?_
    rintro e w3 ⟨v3, rfl, h3, o3⟩
    have hcv3 := h3.bytes.conv
    obtain ⟨g, c3, x, rfl, hcl, hg2, hg3, hx, hfz, hx0, hx1⟩ := own8_head h3 hE1p
    have hi0 : (0 : Int) < (E1.length : Int) := by omega
    obtain ⟨F1, hs3, hF1, hback⟩ := H2.out.rebase o3
    have hs4 := hs3.moved (fun q hq => Nat.lt_of_lt_of_le (hF1 q hq).1 o3.size) ((Only.refl (fun k => k = g) w3).setCell (p := ⟨g, 0, none⟩) (.inl rfl) (.int .u8 (bits BinOp.xor IntKind.u8 x 1))) (fun q hq e => by have := (hF1 q hq).1; omega)
    have o4 : Only (fun _ => False) w (w3.setCell ⟨g, 0, none⟩ (.int .u8 (bits BinOp.xor IntKind.u8 x 1))) := by
      have a1 := H2.out.only
      have z1 := O1.out.size
      have z0 : w1.heap.size < (w1.alloc (.cells #[.slice none 0 0] 26)).heap.size := by simp
      have z2 := a1.size
      exact ((O1.out.trans' a1 (fun k hk e => by omega)).trans o3).setCell (p := ⟨g, 0, none⟩) (.inr (by show w.heap.size ≤ g; omega)) _
    have HS4 := Lib.hid hs4; have HF1 := Lib.hid hF1; have O3 := Lib.hid o3; have O4 := Lib.hid o4; have HBK := Lib.hid hback; clear hs4 hs3 hF1 o3 o4 hback h3
    go_upto_region 7 with (fail)
    generalize hw4 : w3.setCell ⟨g, 0, none⟩ (.int .u8 (bits BinOp.xor IntKind.u8 x 1)) = w4 at *
    clear hx hfz hcv3
    have HW4 := Lib.hid hw4; clear hw4
    have hT4 := wText_s q F1 _ w4 E1 w4 HS4.out (by omega) (by omega)
    have HT4 := Lib.hid hT4; clear hT4
    go_wp2_with fail
    refine HT4.out.mono ?_
    rintro e w5 ⟨rfl, h5⟩
    generalize hL : E1 ++ encT q = L at h5
    have hLl : L.length ≤ 8000 := by rw [← hL, List.length_append]; omega
    have hD5 := wDone_s _ _ _ _ w5 h5 (by omega)
    have o5 : Only (fun _ => False) w w5 := O4.out.trans' h5.only (fun k hk hf => by
      have h1 := (HF1.out k hf).2
      have z0 : w1.heap.size < (w1.alloc (.cells #[.slice none 0 0] 26)).heap.size := by simp
      omega)
    obtain ⟨v5, hv5, hbv5⟩ : ∃ v, w5.heap[w1.heap.size]? = some (.cells #[v] 26 (0, 0)) ∧ Bytes w5 v L := by
      obtain ⟨Fx, ⟨_, v, g1, g2, _⟩, _, _⟩ := h5
      exact ⟨v, g1, g2.bytes⟩
    have HD5 := Lib.hid hD5; have H5 := Lib.hid h5; have O5 := Lib.hid o5; have HV5 := Lib.hid hv5; have HBV5 := Lib.hid hbv5; clear hD5 h5 o5 hv5 hbv5
    have hpre : E1.length ≤ L.length := by rw [← hL, List.length_append]; omega
    have htk : L.take E1.length = E1 := by rw [← hL]; simp
    have HL := Lib.hid hL; have HTK := Lib.hid htk; clear hL htk
    go_wp2_with fail
    refine HD5.out.mono ?_
    rintro e w6 ⟨v6, rfl, h6, o6⟩
    obtain ⟨a6, c6, rfl⟩ := h6.form
    have hb6 := h6.bytes
    have hcl6 : L.length ≤ c6 := by obtain ⟨_, _, e, h, _⟩ := hb6; cases e; exact h
    have k2 : ∀ w', Only (fun _ => False) w6 w' → (convert 24 9 (.slice a6 L.length c6)).run Try.prog w' = .ok (.string ⟨L.toArray⟩) w' := fun w' ho => (hb6.still ho).conv
    have k1 : ∀ w', Only (fun _ => False) w6 w' → (convert 24 9 (.slice a6 E1.length c6)).run Try.prog w' = .ok (.string ⟨E1.toArray⟩) w' := fun w' ho => by
      have := ((hb6.pre hpre).still ho).conv
      rw [HTK.out] at this; exact this
    have HK1 := Lib.hid k1; have HK2 := Lib.hid k2; have HB6 := Lib.hid hb6; have O6 := Lib.hid o6; have H6 := Lib.hid h6; clear k1 k2 hb6 o6 h6
    have hcat : (⟨E1.toArray⟩ : ByteArray) ++ ⟨(encT q).toArray⟩ = ⟨L.toArray⟩ := by rw [bytes_append, HL.out]
    have m1 : (0 : Int) ≤ (E1.length : Int) := by omega
    have m2 : (E1.length : Int) ≤ (L.length : Int) := by omega
    have m3 : (E1.length : Int) ≤ (c6 : Int) := by omega
    have hsz1 : (⟨E1.toArray⟩ : ByteArray).size + (⟨(encT q).toArray⟩ : ByteArray).size ≤ 9223372036854775807 := by rw [str_size, str_size]; omega
    go_upto_region 8 with (fail)
    have k10 := HK1.out _ ((Only.refl _ w6).drew)
    have k20 := HK2.out _ ((Only.refl _ w6).drew)
    go_region_with (first | (go_at_call 20; refine (rText q _ (by omega)).mono ?_; rintro e wt ⟨vt, rfl, ht, ot⟩; have hct := ht.bytes.conv; have k1t := HK1.out _ (((Only.refl _ w6).drew).trans ot); have k2t := HK2.out _ (((Only.refl _ w6).drew).trans ot)) | (go_at_call 21; refine (wSealed _ v5 L _ (by rw [(O6.out.trans (((Only.refl _ w6).drew).trans ot)).block _ (Array.getElem?_eq_some_iff.1 HV5.out).1 (fun h => h)]; exact HV5.out) (HBV5.out.still (O6.out.trans (((Only.refl _ w6).drew).trans ot))) (by omega)).mono ?_; rintro e wu ⟨vu, rfl, hu, ou⟩; have hcu := hu.bytes.conv; have k1u := HK1.out _ ((((Only.refl _ w6).drew).trans ot).trans ou); have k2u := HK2.out _ ((((Only.refl _ w6).drew).trans ot).trans ou)) | (go_at_call 21; refine (wSealed _ v5 L _ (by rw [(O6.out.trans ((((Only.refl _ w6).drew).trans ot).trans ov)).block _ (Array.getElem?_eq_some_iff.1 HV5.out).1 (fun h => h)]; exact HV5.out) (HBV5.out.still (O6.out.trans ((((Only.refl _ w6).drew).trans ot).trans ov))) (by omega)).mono ?_; rintro e wu ⟨vu, rfl, hu, ou⟩; have hcu := hu.bytes.conv; have hcv2 := (hv.still ou).bytes.conv; have k1u := HK1.out _ (((((Only.refl _ w6).drew).trans ot).trans ov).trans ou); have k2u := HK2.out _ (((((Only.refl _ w6).drew).trans ot).trans ov).trans ou)) | (go_at_call 22; refine (rSeal _ L _ (HB6.out.still ((((Only.refl _ w6).drew).trans ot).trans ou)) (by omega)).mono ?_; rintro e wv ⟨vv, rfl, hv, ov⟩; have hcv := hv.bytes.conv; have hcu2 := (hu.still ov).bytes.conv; have k1v := HK1.out _ (((((Only.refl _ w6).drew).trans ot).trans ou).trans ov); have k2v := HK2.out _ (((((Only.refl _ w6).drew).trans ot).trans ou).trans ov)) | (go_at_call 22; refine (rSeal _ L _ (HB6.out.still (((Only.refl _ w6).drew).trans ot)) (by omega)).mono ?_; rintro e wv ⟨vv, rfl, hv, ov⟩; have hcv := hv.bytes.conv; have k1v := HK1.out _ ((((Only.refl _ w6).drew).trans ot).trans ov); have k2v := HK2.out _ ((((Only.refl _ w6).drew).trans ot).trans ov)))
    all_goals
      go_wp2
      go_ret
      first
        | exact ⟨rfl, (O5.out.trans (O6.out.trans (((((Only.refl _ w6).drew).trans ot).trans ou).trans ov))).still⟩
        | exact ⟨rfl, (O5.out.trans (O6.out.trans (((((Only.refl _ w6).drew).trans ot).trans ov).trans ou))).still⟩
  · have t1 : decide ((3000 : Int) < (p.length : Int) + (q.length : Int)) = true := by simp; omega
    go_enter Try.func3, Try.ntmps3
    go_wp2_with fail
    refine (awake_any _).mono ?_
    rintro e w1 ⟨rfl, o1⟩
    go_wp2_with fail
    refine (awake_any _).mono ?_
    rintro e w2 ⟨rfl, o2⟩
    go_wp2
    go_ret
    exact ⟨rfl, (o1.trans o2).still⟩
theorem wkeeps_walk (s0 s1 : ByteArray) (w : World) (h0 : s0.size ≤ 140737488351232) (h1 : s1.size ≤ 140737488351232) :
    Calls Try.prog 3 #[.string s0, .string s1] w fun e w' => e = .returned (.bool true) ∧ Below w.heap.size w w' := by
  obtain ⟨p, rfl, hp⟩ := str_list s0
  obtain ⟨q, rfl, hq⟩ := str_list s1
  exact keeps0 p q w (by omega) (by omega)
end Go.Proofs.Ytoojnpafcdaflaa
