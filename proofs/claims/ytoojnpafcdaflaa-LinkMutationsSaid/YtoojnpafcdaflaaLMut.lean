/- columbarylaw17.LinkMutations: the walk. -/
import Derived.Test.YtoojnpafcdaflaaMut
import Derived.Test.YtoojnpafcdaflaaLnkA
import Derived.Test.YtoojnpafcdaflaaRva
import Derived.Test.YtoojnpafcdaflaaSam
import Derived.Test.YtoojnpafcdaflaaLen
import Derived.Test.YtoojnpafcdaflaaTrv
namespace Go.Proofs.Ytoojnpafcdaflaa
open Go Go.RowKit
set_option linter.unusedVariables false
set_option linter.unusedSimpArgs false
set_option maxRecDepth 100000

theorem awake17 (w : World) : Calls Try.prog 42 #[] w fun e w' => e = .returned (.bool true) ∧ Only (fun _ => False) w w' :=
  (awake_true w).mono fun e w' ⟨h1, h2⟩ => ⟨h1, Only.ofBelow h2 _⟩
theorem mbox (w : World) (e0 e1 e2 e3 e4 e5 e6 : Value) : ∃ wb, wb = w.alloc (.cells #[e0, e1, e2, e3, e4, e5, e6] 64) ∧ Only (fun _ => False) w wb ∧ w.heap.size < wb.heap.size ∧
    ∀ (S : Nat → Prop) w', Only S wb w' → ¬ S w.heap.size → w'.heap[w.heap.size]? = some (.cells #[e0, e1, e2, e3, e4, e5, e6] 64 (0, 0)) := by
  refine ⟨_, rfl, (Only.refl _ w).alloc _, by simp, fun S w' ho hS => ?_⟩
  have h := heap_new w (.cells #[e0, e1, e2, e3, e4, e5, e6] 64)
  rw [ho.block _ (Array.getElem?_eq_some_iff.1 h).1 hS]; exact h
theorem list7 {α : Type} {cs : List α} (h : cs.length = 7) : ∃ a b c d e f g, cs = [a, b, c, d, e, f, g] := by
  match cs, h with
  | [a, b, c, d, e, f, g], _ => exact ⟨a, b, c, d, e, f, g, rfl⟩
theorem mutation_of_Trod {H : Type} {enc : TypeId × Value → H} {w : World} {v : Value} {d : DataW H} {p : List MemPlace} (h : DataW.Trod enc Try.prog w 0 (fun _ => true) true 64 v d p) :
    ∃ (q : Nat) (doc : List UInt8) (t : VT) (cs : List Value), v = .agg (.int .u64 q :: .string ⟨doc.toArray⟩ :: cs).toArray ∧ q < 18446744073709551616 ∧ doc.length ≤ 9223372036854775807 ∧ ValAt w (fun q => q < w.heap.size) t cs := by
  obtain ⟨fuel, hf⟩ := h
  obtain ⟨xs, m, rfl, _, hl, hxl, hf'⟩ := DataW.trod_struct Try.underlying64 hf
  obtain ⟨e0, e1, e2, e3, e4, e5, e6, hcs⟩ := list7 (hl.trans (by kernel_rfl))
  rw [hcs] at hf'
  have f0 := field_at hf' 0 40 0 1 rfl (by kernel_rfl)
  have f1 := field_at hf' 1 9 1 1 rfl (by kernel_rfl)
  have f2 := field_at hf' 2 35 2 5 rfl value_cells
  obtain ⟨y0, y1, y2, rfl⟩ : ∃ y0 y1 y2, xs = [y0, y1, y2] := by
    match xs, hxl with
    | [a, b, c], _ => exact ⟨a, b, c, rfl⟩
  obtain ⟨q, g0, k0, k1⟩ := int_cell Try.underlying40 f0
  obtain ⟨s, g1, s1⟩ := str_cell Try.underlying9 f1
  obtain ⟨t, ht⟩ := val_of_trod w m _ _ f2
  simp at g0 g1 ht
  subst g0; subst g1
  simp [IntKind.min, IntKind.max, IntKind.signed, IntKind.bits] at k0 k1
  refine ⟨q.toNat, s, t, [e2, e3, e4, e5, e6], ?_, by omega, by unfold maxLen at s1; omega, ht⟩
  rw [Int.toNat_of_nonneg k0]
  exact agg_of_cells hcs (by simp)

set_option maxHeartbeats 8000000 in
theorem muts0 (q : Nat) (doc : List UInt8) (t : VT) (w : World) (cs : List Value) (hq : q < 18446744073709551616) (hdl : doc.length ≤ 9223372036854775807) (hv : ValAt w (fun q => q < w.heap.size) t cs) :
    Calls Try.prog 9 #[.agg (.int .u64 q :: .string ⟨doc.toArray⟩ :: cs).toArray] w fun e w' => e = .returned (.bool true) ∧ Below w.heap.size w w' := by
  have hts := valAt_small t _ hv
  obtain ⟨k, n, s, ak, lk, ck, av, lv, cv, rfl⟩ := valAt_form hv
  obtain ⟨wb, hwb, ob, hwsz, hbx⟩ := mbox w (.int .u64 q) (.string ⟨doc.toArray⟩) (.int .u8 k) (.int .i64 n) (.string ⟨s.toArray⟩) (.slice ak lk ck) (.slice av lv cv)
  have hbx0 := fun w' ho => box7 (hbx (fun _ => False) w' ho (fun h => h))
  have hV : ∀ w', Only (fun _ => False) wb w' → ValAt w' (fun q => q < w.heap.size) t [.int .u8 k, .int .i64 n, .string ⟨s.toArray⟩, .slice ak lk ck, .slice av lv cv] := fun w' ho => valAt_only (S := fun _ => False) (ob.trans ho) (fun _ _ h => h) _ _ hv
  have HV := Lib.hid hV; have HBX := Lib.hid hbx0; have HBS := Lib.hid hbx; have OB := Lib.hid ob; have HWB := Lib.hid hwb; have HTS := Lib.hid hts; have HWSZ := Lib.hid hwsz; have HQ := Lib.hid hq
  clear hV hbx hbx0 ob hwb hts hv hwsz hq
  have hq0 : (0 : Int) ≤ (q : Int) := by omega
  have hd0 : (0 : Int) ≤ (doc.length : Int) := by omega
  cases hg : greatV t with
  | true =>
    have HG := Lib.hid hg; clear hg
    go_enter Try.func9, Try.ntmps9
    go_wp2_with fail
    rw [← HWB.out]
    refine (awake17 _).mono ?_
    rintro e w1 ⟨rfl, o1⟩
    obtain ⟨c0, c1, c2, c3, c4, c5, c6⟩ := HBX.out w1 o1
    have hgr := rGreat t _ w1 _ (HV.out w1 o1)
    rw [HG.out] at hgr
    have HGR := Lib.hid hgr; have O1 := Lib.hid o1; clear hgr o1
    go_wp2_with fail
    refine HGR.out.mono ?_
    rintro e w2 ⟨rfl, o2⟩
    have O2 := Lib.hid o2; clear o2 c0 c1 c2 c3 c4 c5 c6
    go_wp2_with fail
    refine (awake17 _).mono ?_
    rintro e w3 ⟨rfl, o3⟩
    have O3 := Lib.hid o3; clear o3
    go_wp2_with fail
    go_ret
    exact ⟨rfl, (((OB.out.trans O1.out).trans O2.out).trans O3.out).still⟩
  | false =>
  cases hf : formV t 0 with
  | false =>
    have HG := Lib.hid hg; have HF := Lib.hid hf; clear hg hf
    go_enter Try.func9, Try.ntmps9
    go_wp2_with fail
    rw [← HWB.out]
    refine (awake17 _).mono ?_
    rintro e w1 ⟨rfl, o1⟩
    obtain ⟨c0, c1, c2, c3, c4, c5, c6⟩ := HBX.out w1 o1
    have hgr := rGreat t _ w1 _ (HV.out w1 o1)
    rw [HG.out] at hgr
    have HGR := Lib.hid hgr; have O1 := Lib.hid o1; clear hgr o1
    go_wp2_with fail
    refine HGR.out.mono ?_
    rintro e w2 ⟨rfl, o2⟩
    have O2 := Lib.hid (O1.out.trans o2); clear o2 c0 c1 c2 c3 c4 c5 c6
    obtain ⟨c0, c1, c2, c3, c4, c5, c6⟩ := HBX.out w2 O2.out
    have hc : Calls Try.prog 24 #[.agg #[.int .u8 k, .int .i64 n, .string ⟨s.toArray⟩, .slice ak lk ck, .slice av lv cv], .int .i64 0] w2 _ := rForm _ t (Nat.le_refl _) _ w2 _ 0 (HV.out w2 O2.out) (by omega)
    rw [HF.out] at hc
    have HC := Lib.hid hc; clear hc
    go_wp2_with fail
    refine HC.out.mono ?_
    rintro e w3 ⟨rfl, o3⟩
    have O3 := Lib.hid (O2.out.trans o3); clear o3 c0 c1 c2 c3 c4 c5 c6
    go_wp2_with fail
    refine (awake17 _).mono ?_
    rintro e w4 ⟨rfl, o4⟩
    have O4 := Lib.hid (O3.out.trans o4); clear o4
    go_wp2_with fail
    go_ret
    exact ⟨rfl, (OB.out.trans O4.out).still⟩
  | true =>
  have hlen := form_len HTS.out hg hf
  have hgd := form_good t 0 hf
  have HG := Lib.hid hg; have HF := Lib.hid hf; have HLEN := Lib.hid hlen; have HGD := Lib.hid hgd; clear hg hf hlen hgd
  by_cases h5 : 5000 < doc.length
  · have t5 : decide ((5000 : Int) < (doc.length : Int)) = true := by simp; omega
    go_enter Try.func9, Try.ntmps9
    go_wp2_with fail
    rw [← HWB.out]
    refine (awake17 _).mono ?_
    rintro e w1 ⟨rfl, o1⟩
    obtain ⟨c0, c1, c2, c3, c4, c5, c6⟩ := HBX.out w1 o1
    have hgr := rGreat t _ w1 _ (HV.out w1 o1)
    rw [HG.out] at hgr
    have HGR := Lib.hid hgr; have O1 := Lib.hid o1; clear hgr o1
    go_wp2_with fail
    refine HGR.out.mono ?_
    rintro e w2 ⟨rfl, o2⟩
    have O2 := Lib.hid (O1.out.trans o2); clear o2 c0 c1 c2 c3 c4 c5 c6
    obtain ⟨c0, c1, c2, c3, c4, c5, c6⟩ := HBX.out w2 O2.out
    have hc : Calls Try.prog 24 #[.agg #[.int .u8 k, .int .i64 n, .string ⟨s.toArray⟩, .slice ak lk ck, .slice av lv cv], .int .i64 0] w2 _ := rForm _ t (Nat.le_refl _) _ w2 _ 0 (HV.out w2 O2.out) (by omega)
    rw [HF.out] at hc
    have HC := Lib.hid hc; clear hc
    go_wp2_with fail
    refine HC.out.mono ?_
    rintro e w3 ⟨rfl, o3⟩
    have O3 := Lib.hid (O2.out.trans o3); clear o3 c0 c1 c2 c3 c4 c5 c6
    obtain ⟨c0, c1, c2, c3, c4, c5, c6⟩ := HBX.out w3 O3.out
    go_wp2_with fail
    refine (awake17 _).mono ?_
    rintro e w4 ⟨rfl, o4⟩
    have O4 := Lib.hid (O3.out.trans o4); clear o4 c0 c1 c2 c3 c4 c5 c6
    go_wp2_with fail
    go_ret
    exact ⟨rfl, (OB.out.trans O4.out).still⟩
  have t5 : decide ((5000 : Int) < (doc.length : Int)) = false := by simp; omega
  obtain ⟨P, hP⟩ : ∃ P, P = encM q doc t := ⟨_, rfl⟩
  have hPl : P.length ≤ 910000 := by
    rw [hP]; unfold encM; rw [List.length_append, List.length_append]
    have h1 := encU_len10 (n := q) HQ.out
    have h2 := encT_le (s := doc) (n := 5000) (by omega) (by decide)
    have h3 := HLEN.out
    omega
  have HP := Lib.hid hP; have HPL := Lib.hid hPl; clear hP hPl
  have hel := encU_len10 (n := q) HQ.out
  have het := encT_le (s := doc) (n := 5000) (by omega) (by decide)
  go_enter Try.func9, Try.ntmps9
  go_wp2_with fail
  rw [← HWB.out]
  refine (awake17 _).mono ?_
  rintro e w1 ⟨rfl, o1⟩
  obtain ⟨c0, c1, c2, c3, c4, c5, c6⟩ := HBX.out w1 o1
  have hgr := rGreat t _ w1 _ (HV.out w1 o1)
  rw [HG.out] at hgr
  have HGR := Lib.hid hgr; have O1 := Lib.hid o1; clear hgr o1
  go_wp2_with fail
  refine HGR.out.mono ?_
  rintro e w2 ⟨rfl, o2⟩
  have O2 := Lib.hid (O1.out.trans o2); clear o2 c0 c1 c2 c3 c4 c5 c6
  obtain ⟨c0, c1, c2, c3, c4, c5, c6⟩ := HBX.out w2 O2.out
  have hc : Calls Try.prog 24 #[.agg #[.int .u8 k, .int .i64 n, .string ⟨s.toArray⟩, .slice ak lk ck, .slice av lv cv], .int .i64 0] w2 _ := rForm _ t (Nat.le_refl _) _ w2 _ 0 (HV.out w2 O2.out) (by omega)
  rw [HF.out] at hc
  have HC := Lib.hid hc; clear hc
  go_wp2_with fail
  refine HC.out.mono ?_
  rintro e w4 ⟨rfl, o4⟩
  have O4 := Lib.hid (O2.out.trans o4); clear o4 c0 c1 c2 c3 c4 c5 c6
  obtain ⟨c0, c1, c2, c3, c4, c5, c6⟩ := HBX.out w4 O4.out
  go_upto_region 4 with (fail)
  clear c0 c1 c2 c3 c4 c5 c6
  have hA := heap_new w4 (.cells #[.slice none 0 0] 26)
  have oA := O4.out.alloc (.cells #[.slice none 0 0] 26)
  generalize hw5 : w4.alloc (.cells #[.slice none 0 0] 26) = w5 at *
  have hs4 : w.heap.size < w4.heap.size := Nat.lt_of_lt_of_le HWSZ.out O4.out.size
  have hs5 : w4.heap.size < w5.heap.size := by rw [← hw5]; simp
  have hmu := mutation_any q doc t (fun x => x = w4.heap.size) (fun x => x < w.heap.size) w4.heap.size w5 [] w5 _ (WS.new hA) (HV.out w5 oA) HGD.out (fun x hx => ⟨by omega, by omega⟩) HQ.out (by omega) (by have := HLEN.out; omega) (by simp)
  rw [List.nil_append, ← HP.out] at hmu
  obtain ⟨c0, c1, c2, c3, c4, c5, c6⟩ := HBX.out w5 oA
  have HMU := Lib.hid hmu; have O5 := Lib.hid oA; have HS := Lib.hid hs4; have HS5 := Lib.hid hs5; clear hmu oA hA hw5 hs4 hs5
  go_wp2_with fail
  refine HMU.out.mono ?_
  rintro e w6 ⟨rfl, h6⟩
  have hd := wDone_s _ _ _ _ w6 h6 (by have := HPL.out; omega)
  have o6 : Only (fun x => x = w4.heap.size) w5 w6 := h6.only
  have HD := Lib.hid hd; have O6 := Lib.hid o6; clear hd o6 h6 c0 c1 c2 c3 c4 c5 c6
  go_wp2_with fail
  refine HD.out.mono ?_
  rintro e w7 ⟨v7, rfl, h7, o7⟩
  have O7 := Lib.hid (O6.out.trans' o7 (fun _ _ h => h.elim)); have HB7 := Lib.hid h7.bytes; have HG7 := Lib.hid (fun k hk => (h7.ge (k := k) hk).2); clear o7 h7
  -- what is known of the values that came in, at whatever world that stands behind w7
  have hB7 : ∀ (S : Nat → Prop) w', Only S w7 w' → (∀ x, S x → w7.heap.size ≤ x) → w'.heap[w.heap.size]? = some (.cells #[.int .u64 q, .string ⟨doc.toArray⟩, .int .u8 k, .int .i64 n, .string ⟨s.toArray⟩, .slice ak lk ck, .slice av lv cv] 64 (0, 0)) ∧ ValAt w' (fun q => q < w.heap.size) t [.int .u8 k, .int .i64 n, .string ⟨s.toArray⟩, .slice ak lk ck, .slice av lv cv] ∧ Bytes w' v7 P := fun S w' ho hS => by
    have h57 := O7.out.size
    have h1 := HS.out; have h2 := HS5.out
    have o57 : Only (fun x => x = w4.heap.size ∨ S x) w5 w' := (O7.out.mono (fun _ _ h => .inl h)).trans' ho (fun _ _ h => .inr h)
    have hb5 := HBS.out (fun _ => False) w5 O5.out (fun h => h)
    refine ⟨?_, valAt_only o57 (fun x hx h => by rcases h with h | h; omega; (have := hS x h; omega)) _ _ (HV.out w5 O5.out), HB7.out.only ho (fun _ x hx hs => by have h3 := HG7.out x hx; have := hS x hs; omega)⟩
    rw [o57.block _ (by omega) (fun h => by rcases h with h | h; omega; (have := hS _ h; omega))]; exact hb5
  have HB := Lib.hid hB7; clear hB7
  obtain ⟨c0, c1, c2, c3, c4, c5, c6⟩ := box7 (HB.out (fun _ => False) w7 (Only.refl _ _) (fun _ h => h.elim)).1
  go_wp2_with fail
  refine (rUint q w7 HQ.out).mono ?_
  rintro e w8 ⟨v8, rfl, h8, o8⟩
  have H8 := Lib.hid h8; have O8 := Lib.hid o8; clear h8 o8 c0 c1 c2 c3 c4 c5 c6
  obtain ⟨c0, c1, c2, c3, c4, c5, c6⟩ := box7 (HB.out _ w8 O8.out (fun _ h => h.elim)).1
  go_wp2_with fail
  refine (rText doc w8 (by omega)).mono ?_
  rintro e w9 ⟨v9, rfl, h9, o9⟩
  have H9 := Lib.hid h9; have O9 := Lib.hid o9; clear h9 o9 c0 c1 c2 c3 c4 c5 c6
  go_wp2_with ((refine wpList_append8 (o := ⟨some 42, _, _, _, _, _⟩) rfl (.tmp 38) (.tmp 41) (by rfl) w7.heap.size _ _ (encU q) (encT doc) (by rfl) (by rfl) (H8.out.still O9.out) H9.out.bytes (by omega) (Nat.le_trans O8.out.size O9.out.size) ?_; intro L1 a10 c10 w10 hL1 h10 g10; have o10 := g10.out.step (O8.out.trans O9.out) (fun k hk => .inr ((H8.out.still O9.out).ge hk).1); obtain ⟨c0, c1, c2, c3, c4, c5, c6⟩ := box7 (HB.out _ w10 o10 (fun _ h => h.elim)).1; have O10 := Lib.hid o10; clear o10))
  refine (rValue _ t (Nat.le_refl _) _ w10 _ (HB.out _ w10 O10.out (fun _ h => h.elim)).2.1 HGD.out (by have := HLEN.out; omega)).mono ?_
  rintro e w11 ⟨v11, rfl, h11, o11⟩
  have H11 := Lib.hid h11; have O11 := Lib.hid o11; clear h11 o11 c0 c1 c2 c3 c4 c5 c6
  go_wp2_with ((refine wpList_append8 (o := ⟨some 47, _, _, _, _, _⟩) rfl (.tmp 43) (.tmp 46) (by rfl) w7.heap.size _ _ L1 (encV t) (by rfl) (by rfl) (h10.out.still O11.out) H11.out.bytes (by have h1 := HLEN.out; rw [hL1.out, List.length_append]; omega) (Nat.le_trans O10.out.size O11.out.size) ?_; intro L2 a12 c12 w12 hL2 h12 g12))
  have o12 := g12.out.step (O10.out.trans O11.out) (fun k hk => .inr ((h10.out.still O11.out).ge hk).1)
  have hL2P : L2 = P := by rw [hL2.out, hL1.out, HP.out]; unfold encM; rw [List.append_assoc]
  subst hL2P
  have O12 := Lib.hid o12; have H12 := Lib.hid h12.out.bytes; have HGE := Lib.hid (fun k hk => (h12.out.ge (k := k) hk).2); clear o12 h12 g12 hL2 h10 g10 hL1
  have HB7' := Lib.hid (HB.out _ w12 O12.out (fun _ h => h.elim)).2.2
  go_wp2_with fail
  refine (read_new v7 L2 w12 HB7'.out (fun _ x hx => Nat.lt_of_lt_of_le (HG7.out x hx) O12.out.size)).mono ?_
  rintro e w13 ⟨rfl, h13, o13⟩
  have O13 := Lib.hid (O12.out.trans o13); have H13 := Lib.hid h13; have HLs := Lib.hid (H12.out.still o13); have hsz := o13.size; have HSZ := Lib.hid hsz; clear o13 h13 hsz
  go_wp2_with fail
  refine (unmutation_any w12.heap.size L2 false w13 H13.out).mono ?_
  rintro e w14 ⟨q', doc', t', cs', r', β', he, hq', hd', hv14, h14, o14, d1, d2⟩
  obtain ⟨k2, n2, s2, bk, mk, dk, bv, mv, dv, rfl⟩ := valAt_form hv14
  have he : e = .returned (.agg #[.int .u64 q', .string ⟨doc'.toArray⟩, .int .u8 k2, .int .i64 n2, .string ⟨s2.toArray⟩, .slice bk mk dk, .slice bv mv dv]) := he
  subst he
  have hz := zero_M
  have o7e : Only (fun x => x = w12.heap.size) w7 w14 := (O13.out.mono (fun _ _ h => h.elim)).trans o14
  have hLe : Bytes w14 (.slice a12 L2.length c12) L2 := HLs.out.only o14 (fun _ x hx hs => by have := HGE.out x hx; omega)
  have O14 := Lib.hid o7e; have H14 := Lib.hid h14; have HL14 := Lib.hid hLe; have HV14 := Lib.hid hv14; have D1 := Lib.hid d1; have D2 := Lib.hid d2; have HQ' := Lib.hid hq'; have HD' := Lib.hid hd'; clear o7e h14 hLe hv14 d1 d2 o14 hq' hd'
  go_upto_region 11 with (fail)
  have hu := heap_new w14 (.cells #[.int .u64 q', .string ⟨doc'.toArray⟩, .int .u8 k2, .int .i64 n2, .string ⟨s2.toArray⟩, .slice bk mk dk, .slice bv mv dv] 64)
  have oo := (Only.refl (fun _ => False) w14).alloc (.cells #[.int .u64 q', .string ⟨doc'.toArray⟩, .int .u8 k2, .int .i64 n2, .string ⟨s2.toArray⟩, .slice bk mk dk, .slice bv mv dv] 64)
  clear hz
  generalize w14.alloc (.cells #[.int .u64 q', .string ⟨doc'.toArray⟩, .int .u8 k2, .int .i64 n2, .string ⟨s2.toArray⟩, .slice bk mk dk, .slice bv mv dv] 64) = w15 at *
  have o15 : Only (fun x => x = w12.heap.size) w7 w15 := O14.out.trans' oo (fun _ _ h => h.elim)
  have hst := HB.out _ w15 o15 (fun x h => by have := O12.out.size; omega)
  have hcv1 := hst.2.2.conv
  have hcv2 := (HL14.out.still oo).conv
  have h15 := H14.out.still oo
  have hall : Only (fun _ => False) w w15 := (((OB.out.trans O5.out).trans' O7.out (fun x hx h => by have := HS.out; omega)).trans' o15 (fun x hx h => by have h1 := HS.out; have h2 := HS5.out; have h3 := O7.out.size; have h4 := O12.out.size; omega))
  obtain ⟨c0, c1, c2, c3, c4, c5, c6⟩ := box7 hst.1
  obtain ⟨u0, u1, u2, u3, u4, u5, u6⟩ := box7 hu
  obtain ⟨a7, c7, hv7⟩ : ∃ a7 c7, v7 = .slice a7 L2.length c7 := by obtain ⟨a, c, e, _⟩ := HB7.out; exact ⟨a, c, e⟩
  subst hv7
  have H15 := Lib.hid h15; have HALL := Lib.hid hall; have HV15 := Lib.hid hst.2.1; have HU15 := Lib.hid (valAt_only oo (fun _ _ h => h) _ _ HV14.out); have OO := Lib.hid oo
  clear h15 hall hst oo o15 hu
  by_cases hbad : 1152921504606846976 < q ∨ 2000 < doc.length
  · have hdn : decM L2 = none := by have h := decM_over (t := t) [] HQ.out (by omega) hbad; rw [List.append_nil, ← HP.out] at h; exact h
    have hβ : β' = true := by
      cases β' with
      | true => rfl
      | false => have h := (D1.out rfl).2; rw [hdn] at h; cases h
    subst hβ
    have hcase : decide ((1152921504606846976 : Int) < (q : Int)) = true ∨ (decide ((1152921504606846976 : Int) < (q : Int)) = false ∧ decide ((2000 : Int) < (doc.length : Int)) = true) := by
      simp only [decide_eq_true_eq, decide_eq_false_iff_not]; omega
    have HBAD := Lib.hid hbad; clear hbad hdn
    rcases hcase with hc1 | ⟨hc1, hc2⟩
    all_goals
      go_wp2_with fail
      refine (bad_any w12.heap.size r' true w15 H15.out).mono ?_
      rintro e w16 ⟨rfl, rfl⟩
      go_wp2_with fail
      go_ret
      exact ⟨rfl, HALL.out.still⟩
  · have hdn : decM L2 = some ((q, doc, t), []) := by have h := decM_enc (q := q) (doc := doc) (t := t) [] (by omega) (by omega) HTS.out HF.out; rw [List.append_nil, ← HP.out] at h; exact h
    have hβ : β' = false := by
      cases β' with
      | false => rfl
      | true => rcases D2.out rfl with h | h; (cases h); (rw [hdn] at h; cases h)
    subst hβ
    have h := (D1.out rfl).2
    rw [hdn] at h
    injection h with h
    simp only [Prod.mk.injEq] at h
    obtain ⟨⟨rfl, rfl, rfl⟩, rfl⟩ := h
    have hc1 : decide ((1152921504606846976 : Int) < (q : Int)) = false := by simp only [decide_eq_false_iff_not]; omega
    have hc2 : decide ((2000 : Int) < (doc.length : Int)) = false := by simp only [decide_eq_false_iff_not]; omega
    have hst := rSame _ t t (Nat.le_refl _) (fun x => w13.heap.size ≤ x) (fun q => q < w.heap.size) w15 _ _ HU15.out HV15.out
    rw [sameV_refl t] at hst
    have HBAD := Lib.hid hbad; have HST := Lib.hid hst; clear hbad hdn hst
    go_wp2_with fail
    refine (end_any w12.heap.size [] false w15 H15.out).mono ?_
    rintro e w16 ⟨rfl, rfl⟩
    go_wp2_with fail
    refine HST.out.mono ?_
    rintro e w17 ⟨rfl, o17⟩
    have O17 := Lib.hid o17; clear o17
    go_wp2_with fail
    go_ret
    exact ⟨rfl, (HALL.out.trans O17.out).still⟩
theorem muts_walk (v0 : Value) (w : World) {H : Type} {enc : TypeId × Value → H} {d0 : DataW H} {p0 : List MemPlace} {b0 : Nat}
    (h0 : DataW.Trod enc Try.prog w 0 (fun _ => true) true 64 v0 d0 p0) (g0 : Value.okWide Try.prog w .any b0 64 v0) :
    Calls Try.prog 9 #[v0] w fun e w' => e = .returned (.bool true) ∧ Below w.heap.size w w' := by
  obtain ⟨q, doc, t, cs, rfl, h1, h2, h3⟩ := mutation_of_Trod h0
  exact muts0 q doc t w cs h1 h2 h3
end Go.Proofs.Ytoojnpafcdaflaa
