/- The document's answer: a value as bytes (ref03.Value). -/
import Derived.Test.YtoojnpafcdaflaaWvb
namespace Go.Proofs.Ytoojnpafcdaflaa
open Go Go.RowKit
set_option linter.unusedVariables false
set_option linter.unusedSimpArgs false

set_option maxRecDepth 100000 in
set_option maxHeartbeats 8000000 in
theorem rValue : ∀ (z : Nat) (t : VT), SizeOf.sizeOf t ≤ z → ∀ (G : Nat → Prop) (w : World) (cs : List Value), ValAt w G t cs → GoodV t → (encV t).length ≤ 1000000000 → Calls Try.prog 26 #[.agg cs.toArray] w (Makes w (encV t)) := by
  intro z
  induction z with
  | zero => intro t ht; exfalso; obtain ⟨k, n, s, ks, vs⟩ := t; simp only [VT.mk.sizeOf_spec] at ht; omega
  | succ z ih =>
    intro t ht G w cs hv hgood hle
    obtain ⟨k, n, s, ks, vs⟩ := t
    have IH := Lib.hid ih; clear ih
    have HT := Lib.hid ht; clear ht
    simp only [ValAt] at hv
    simp only [GoodV] at hgood
    obtain ⟨ak, ck, av, cv, rfl, hk, hn, hs, hck, hcv, hK, hV⟩ := hv
    have hwb : ∃ wb, wb = w.alloc (.cells #[.int .u8 k, .int .i64 n, .string ⟨s.toArray⟩, .slice ak ks.length ck, .slice av vs.length cv] 35) := ⟨_, rfl⟩
    obtain ⟨wb, hwb⟩ := hwb
    have ob : Only (fun _ => False) w wb := by rw [hwb]; exact (Only.refl _ w).alloc _
    have hbox : wb.heap[w.heap.size]? = some (.cells #[.int .u8 k, .int .i64 n, .string ⟨s.toArray⟩, .slice ak ks.length ck, .slice av vs.length cv] 35 (0, 0)) := by rw [hwb]; exact heap_new w _
    have hkeep : ∀ w', Only (fun _ => False) wb w' → w'.heap[w.heap.size]? = some (.cells #[.int .u8 k, .int .i64 n, .string ⟨s.toArray⟩, .slice ak ks.length ck, .slice av vs.length cv] 35 (0, 0)) := fun w' ho => by
      rw [ho.block _ (Array.getElem?_eq_some_iff.1 hbox).1 (fun h => h)]; exact hbox
    have HKEEP := Lib.hid hkeep; have HOB := Lib.hid ob; have HGOOD := Lib.hid hgood; have HK := Lib.hid hK; have HV := Lib.hid hV; have HWB := Lib.hid hwb
    clear hkeep ob hgood hK hV hbox hwb
    have hE : encV (.mk k n s ks vs) = encU k ++ (if k = 1 ∨ k = 3 then encU (zig n) else if k = 2 ∨ k = 4 ∨ k = 7 ∨ k = 8 then encT s else if k = 5 ∨ k = 6 then encU vs.length ++ encVs (decide (k = 6)) ks vs else []) := by simp only [encV]
    rw [hE] at hle ⊢
    clear hE
    have hk0 : (0 : Int) ≤ (k : Int) := by omega
    have hk1 : (k : Int) ≤ 255 := by omega
    rw [List.length_append] at hle
    have hu := rUint k wb (by omega)
    rw [HWB.out] at hu
    have HU := Lib.hid hu; clear hu
    have HLE := Lib.hid hle; clear hle
    have hcase : k = 1 ∨ k = 3 ∨ k = 2 ∨ k = 4 ∨ k = 7 ∨ k = 8 ∨ k = 5 ∨ k = 6 ∨ (k = 0 ∨ 9 ≤ k) := by omega
    rcases hcase with hkk | hkk | hkk | hkk | hkk | hkk | hkk | hkk | hkk
    · have n1 : ((k : Int) == 1) = true := by simp; omega
      have n2 : ((k : Int) == 2) = false := by simp; omega
      have n3 : ((k : Int) == 3) = false := by simp; omega
      have n4 : ((k : Int) == 4) = false := by simp; omega
      have n5 : ((k : Int) == 5) = false := by simp; omega
      have n6 : ((k : Int) == 6) = false := by simp; omega
      have n7 : ((k : Int) == 7) = false := by simp; omega
      have n8 : ((k : Int) == 8) = false := by simp; omega
      have hr : (if k = 1 ∨ k = 3 then encU (zig n) else if k = 2 ∨ k = 4 ∨ k = 7 ∨ k = 8 then encT s else if k = 5 ∨ k = 6 then encU vs.length ++ encVs (decide (k = 6)) ks vs else []) = encU (zig n) := by rw [if_pos (by omega)]
      have hle := HLE.out
      rw [hr] at hle ⊢
      have HLE' := Lib.hid hle; clear hle hr HLE
      have HKK := Lib.hid hkk; clear hkk
      go_enter Try.func26, Try.ntmps26
      go_wp2_with fail
      refine HU.out.mono ?_
      rintro e w2 ⟨v2, rfl, h2, o2⟩
      rw [← HWB.out] at h2 o2
      obtain ⟨c0, c1, c2, c3, c4⟩ := box_cells (HKEEP.out _ o2)
      have H2 := Lib.hid h2; have O2 := Lib.hid o2; clear h2 o2
      have hel := encU_len10 (n := k) (by omega)
      go_wp2_with fail
      refine (rInt n _ hn.1 hn.2).mono ?_
      rintro e w3 ⟨v3, rfl, h3, o3⟩
      have H3 := Lib.hid h3; have O3 := Lib.hid o3; clear h3 o3 c0 c1 c2 c3 c4
      go_wp2_with ((refine wpList_append8 (o := ⟨some 18, _, _, _, _, _⟩) rfl (.tmp 14) (.tmp 17) (by rfl) wb.heap.size _ _ (encU k) (encU (zig n)) (by rfl) (by rfl) (H2.out.still O3.out) H3.out.bytes (by have := HLE'.out; omega) (Nat.le_trans O2.out.size O3.out.size) ?_; intro L a3 c3 w9 hL h9 g9))
      go_ret
      rw [← hL.out]
      exact ⟨_, rfl, h9.out.mono HOB.out.size, g9.out.step ((HOB.out.trans O2.out).trans O3.out) (fun q hq => .inr (Nat.le_trans HOB.out.size ((H2.out.still O3.out).ge hq).1))⟩
    · have n1 : ((k : Int) == 1) = false := by simp; omega
      have n2 : ((k : Int) == 2) = false := by simp; omega
      have n3 : ((k : Int) == 3) = true := by simp; omega
      have n4 : ((k : Int) == 4) = false := by simp; omega
      have n5 : ((k : Int) == 5) = false := by simp; omega
      have n6 : ((k : Int) == 6) = false := by simp; omega
      have n7 : ((k : Int) == 7) = false := by simp; omega
      have n8 : ((k : Int) == 8) = false := by simp; omega
      have hr : (if k = 1 ∨ k = 3 then encU (zig n) else if k = 2 ∨ k = 4 ∨ k = 7 ∨ k = 8 then encT s else if k = 5 ∨ k = 6 then encU vs.length ++ encVs (decide (k = 6)) ks vs else []) = encU (zig n) := by rw [if_pos (by omega)]
      have hle := HLE.out
      rw [hr] at hle ⊢
      have HLE' := Lib.hid hle; clear hle hr HLE
      have HKK := Lib.hid hkk; clear hkk
      go_enter Try.func26, Try.ntmps26
      go_wp2_with fail
      refine HU.out.mono ?_
      rintro e w2 ⟨v2, rfl, h2, o2⟩
      rw [← HWB.out] at h2 o2
      obtain ⟨c0, c1, c2, c3, c4⟩ := box_cells (HKEEP.out _ o2)
      have H2 := Lib.hid h2; have O2 := Lib.hid o2; clear h2 o2
      have hel := encU_len10 (n := k) (by omega)
      go_wp2_with fail
      refine (rInt n _ hn.1 hn.2).mono ?_
      rintro e w3 ⟨v3, rfl, h3, o3⟩
      have H3 := Lib.hid h3; have O3 := Lib.hid o3; clear h3 o3 c0 c1 c2 c3 c4
      go_wp2_with ((refine wpList_append8 (o := ⟨some 18, _, _, _, _, _⟩) rfl (.tmp 14) (.tmp 17) (by rfl) wb.heap.size _ _ (encU k) (encU (zig n)) (by rfl) (by rfl) (H2.out.still O3.out) H3.out.bytes (by have := HLE'.out; omega) (Nat.le_trans O2.out.size O3.out.size) ?_; intro L a3 c3 w9 hL h9 g9))
      go_ret
      rw [← hL.out]
      exact ⟨_, rfl, h9.out.mono HOB.out.size, g9.out.step ((HOB.out.trans O2.out).trans O3.out) (fun q hq => .inr (Nat.le_trans HOB.out.size ((H2.out.still O3.out).ge hq).1))⟩
    · have n1 : ((k : Int) == 1) = false := by simp; omega
      have n2 : ((k : Int) == 2) = true := by simp; omega
      have n3 : ((k : Int) == 3) = false := by simp; omega
      have n4 : ((k : Int) == 4) = false := by simp; omega
      have n5 : ((k : Int) == 5) = false := by simp; omega
      have n6 : ((k : Int) == 6) = false := by simp; omega
      have n7 : ((k : Int) == 7) = false := by simp; omega
      have n8 : ((k : Int) == 8) = false := by simp; omega
      have hr : (if k = 1 ∨ k = 3 then encU (zig n) else if k = 2 ∨ k = 4 ∨ k = 7 ∨ k = 8 then encT s else if k = 5 ∨ k = 6 then encU vs.length ++ encVs (decide (k = 6)) ks vs else []) = encT s := by rw [if_neg (by omega), if_pos (by omega)]
      have hle := HLE.out
      rw [hr] at hle ⊢
      have HLE' := Lib.hid hle; clear hle hr HLE
      have HKK := Lib.hid hkk; clear hkk
      go_enter Try.func26, Try.ntmps26
      go_wp2_with fail
      refine HU.out.mono ?_
      rintro e w2 ⟨v2, rfl, h2, o2⟩
      rw [← HWB.out] at h2 o2
      obtain ⟨c0, c1, c2, c3, c4⟩ := box_cells (HKEEP.out _ o2)
      have H2 := Lib.hid h2; have O2 := Lib.hid o2; clear h2 o2
      have hel := encU_len10 (n := k) (by omega)
      go_wp2_with fail
      refine (rText s _ (by have := HLE'.out; unfold encT at this; rw [List.length_append] at this; omega)).mono ?_
      rintro e w3 ⟨v3, rfl, h3, o3⟩
      have H3 := Lib.hid h3; have O3 := Lib.hid o3; clear h3 o3 c0 c1 c2 c3 c4
      go_wp2_with ((refine wpList_append8 (o := ⟨some 28, _, _, _, _, _⟩) rfl (.tmp 24) (.tmp 27) (by rfl) wb.heap.size _ _ (encU k) (encT s) (by rfl) (by rfl) (H2.out.still O3.out) H3.out.bytes (by have := HLE'.out; omega) (Nat.le_trans O2.out.size O3.out.size) ?_; intro L a3 c3 w9 hL h9 g9))
      go_ret
      rw [← hL.out]
      exact ⟨_, rfl, h9.out.mono HOB.out.size, g9.out.step ((HOB.out.trans O2.out).trans O3.out) (fun q hq => .inr (Nat.le_trans HOB.out.size ((H2.out.still O3.out).ge hq).1))⟩
    · have n1 : ((k : Int) == 1) = false := by simp; omega
      have n2 : ((k : Int) == 2) = false := by simp; omega
      have n3 : ((k : Int) == 3) = false := by simp; omega
      have n4 : ((k : Int) == 4) = true := by simp; omega
      have n5 : ((k : Int) == 5) = false := by simp; omega
      have n6 : ((k : Int) == 6) = false := by simp; omega
      have n7 : ((k : Int) == 7) = false := by simp; omega
      have n8 : ((k : Int) == 8) = false := by simp; omega
      have hr : (if k = 1 ∨ k = 3 then encU (zig n) else if k = 2 ∨ k = 4 ∨ k = 7 ∨ k = 8 then encT s else if k = 5 ∨ k = 6 then encU vs.length ++ encVs (decide (k = 6)) ks vs else []) = encT s := by rw [if_neg (by omega), if_pos (by omega)]
      have hle := HLE.out
      rw [hr] at hle ⊢
      have HLE' := Lib.hid hle; clear hle hr HLE
      have HKK := Lib.hid hkk; clear hkk
      go_enter Try.func26, Try.ntmps26
      go_wp2_with fail
      refine HU.out.mono ?_
      rintro e w2 ⟨v2, rfl, h2, o2⟩
      rw [← HWB.out] at h2 o2
      obtain ⟨c0, c1, c2, c3, c4⟩ := box_cells (HKEEP.out _ o2)
      have H2 := Lib.hid h2; have O2 := Lib.hid o2; clear h2 o2
      have hel := encU_len10 (n := k) (by omega)
      go_wp2_with fail
      refine (rText s _ (by have := HLE'.out; unfold encT at this; rw [List.length_append] at this; omega)).mono ?_
      rintro e w3 ⟨v3, rfl, h3, o3⟩
      have H3 := Lib.hid h3; have O3 := Lib.hid o3; clear h3 o3 c0 c1 c2 c3 c4
      go_wp2_with ((refine wpList_append8 (o := ⟨some 28, _, _, _, _, _⟩) rfl (.tmp 24) (.tmp 27) (by rfl) wb.heap.size _ _ (encU k) (encT s) (by rfl) (by rfl) (H2.out.still O3.out) H3.out.bytes (by have := HLE'.out; omega) (Nat.le_trans O2.out.size O3.out.size) ?_; intro L a3 c3 w9 hL h9 g9))
      go_ret
      rw [← hL.out]
      exact ⟨_, rfl, h9.out.mono HOB.out.size, g9.out.step ((HOB.out.trans O2.out).trans O3.out) (fun q hq => .inr (Nat.le_trans HOB.out.size ((H2.out.still O3.out).ge hq).1))⟩
    · have n1 : ((k : Int) == 1) = false := by simp; omega
      have n2 : ((k : Int) == 2) = false := by simp; omega
      have n3 : ((k : Int) == 3) = false := by simp; omega
      have n4 : ((k : Int) == 4) = false := by simp; omega
      have n5 : ((k : Int) == 5) = false := by simp; omega
      have n6 : ((k : Int) == 6) = false := by simp; omega
      have n7 : ((k : Int) == 7) = true := by simp; omega
      have n8 : ((k : Int) == 8) = false := by simp; omega
      have hr : (if k = 1 ∨ k = 3 then encU (zig n) else if k = 2 ∨ k = 4 ∨ k = 7 ∨ k = 8 then encT s else if k = 5 ∨ k = 6 then encU vs.length ++ encVs (decide (k = 6)) ks vs else []) = encT s := by rw [if_neg (by omega), if_pos (by omega)]
      have hle := HLE.out
      rw [hr] at hle ⊢
      have HLE' := Lib.hid hle; clear hle hr HLE
      have HKK := Lib.hid hkk; clear hkk
      go_enter Try.func26, Try.ntmps26
      go_wp2_with fail
      refine HU.out.mono ?_
      rintro e w2 ⟨v2, rfl, h2, o2⟩
      rw [← HWB.out] at h2 o2
      obtain ⟨c0, c1, c2, c3, c4⟩ := box_cells (HKEEP.out _ o2)
      have H2 := Lib.hid h2; have O2 := Lib.hid o2; clear h2 o2
      have hel := encU_len10 (n := k) (by omega)
      go_wp2_with fail
      refine (rText s _ (by have := HLE'.out; unfold encT at this; rw [List.length_append] at this; omega)).mono ?_
      rintro e w3 ⟨v3, rfl, h3, o3⟩
      have H3 := Lib.hid h3; have O3 := Lib.hid o3; clear h3 o3 c0 c1 c2 c3 c4
      go_wp2_with ((refine wpList_append8 (o := ⟨some 28, _, _, _, _, _⟩) rfl (.tmp 24) (.tmp 27) (by rfl) wb.heap.size _ _ (encU k) (encT s) (by rfl) (by rfl) (H2.out.still O3.out) H3.out.bytes (by have := HLE'.out; omega) (Nat.le_trans O2.out.size O3.out.size) ?_; intro L a3 c3 w9 hL h9 g9))
      go_ret
      rw [← hL.out]
      exact ⟨_, rfl, h9.out.mono HOB.out.size, g9.out.step ((HOB.out.trans O2.out).trans O3.out) (fun q hq => .inr (Nat.le_trans HOB.out.size ((H2.out.still O3.out).ge hq).1))⟩
    · have n1 : ((k : Int) == 1) = false := by simp; omega
      have n2 : ((k : Int) == 2) = false := by simp; omega
      have n3 : ((k : Int) == 3) = false := by simp; omega
      have n4 : ((k : Int) == 4) = false := by simp; omega
      have n5 : ((k : Int) == 5) = false := by simp; omega
      have n6 : ((k : Int) == 6) = false := by simp; omega
      have n7 : ((k : Int) == 7) = false := by simp; omega
      have n8 : ((k : Int) == 8) = true := by simp; omega
      have hr : (if k = 1 ∨ k = 3 then encU (zig n) else if k = 2 ∨ k = 4 ∨ k = 7 ∨ k = 8 then encT s else if k = 5 ∨ k = 6 then encU vs.length ++ encVs (decide (k = 6)) ks vs else []) = encT s := by rw [if_neg (by omega), if_pos (by omega)]
      have hle := HLE.out
      rw [hr] at hle ⊢
      have HLE' := Lib.hid hle; clear hle hr HLE
      have HKK := Lib.hid hkk; clear hkk
      go_enter Try.func26, Try.ntmps26
      go_wp2_with fail
      refine HU.out.mono ?_
      rintro e w2 ⟨v2, rfl, h2, o2⟩
      rw [← HWB.out] at h2 o2
      obtain ⟨c0, c1, c2, c3, c4⟩ := box_cells (HKEEP.out _ o2)
      have H2 := Lib.hid h2; have O2 := Lib.hid o2; clear h2 o2
      have hel := encU_len10 (n := k) (by omega)
      go_wp2_with fail
      refine (rText s _ (by have := HLE'.out; unfold encT at this; rw [List.length_append] at this; omega)).mono ?_
      rintro e w3 ⟨v3, rfl, h3, o3⟩
      have H3 := Lib.hid h3; have O3 := Lib.hid o3; clear h3 o3 c0 c1 c2 c3 c4
      go_wp2_with ((refine wpList_append8 (o := ⟨some 28, _, _, _, _, _⟩) rfl (.tmp 24) (.tmp 27) (by rfl) wb.heap.size _ _ (encU k) (encT s) (by rfl) (by rfl) (H2.out.still O3.out) H3.out.bytes (by have := HLE'.out; omega) (Nat.le_trans O2.out.size O3.out.size) ?_; intro L a3 c3 w9 hL h9 g9))
      go_ret
      rw [← hL.out]
      exact ⟨_, rfl, h9.out.mono HOB.out.size, g9.out.step ((HOB.out.trans O2.out).trans O3.out) (fun q hq => .inr (Nat.le_trans HOB.out.size ((H2.out.still O3.out).ge hq).1))⟩
    · have n1 : ((k : Int) == 1) = false := by simp; omega
      have n2 : ((k : Int) == 2) = false := by simp; omega
      have n3 : ((k : Int) == 3) = false := by simp; omega
      have n4 : ((k : Int) == 4) = false := by simp; omega
      have n5 : ((k : Int) == 5) = true := by simp; omega
      have n6 : ((k : Int) == 6) = false := by simp; omega
      have n7 : ((k : Int) == 7) = false := by simp; omega
      have n8 : ((k : Int) == 8) = false := by simp; omega
      have hr : (if k = 1 ∨ k = 3 then encU (zig n) else if k = 2 ∨ k = 4 ∨ k = 7 ∨ k = 8 then encT s else if k = 5 ∨ k = 6 then encU vs.length ++ encVs (decide (k = 6)) ks vs else []) = encU vs.length ++ encVs false ks vs := by rw [if_neg (by omega), if_neg (by omega), if_pos (by omega), show decide (k = 6) = false from by simp; omega]
      have hle := HLE.out
      rw [hr] at hle ⊢
      have HLE' := Lib.hid hle; clear hle hr HLE
      have HKK := Lib.hid hkk; clear hkk
      go_enter Try.func26, Try.ntmps26
      go_wp2_with fail
      refine HU.out.mono ?_
      rintro e w2 ⟨v2, rfl, h2, o2⟩
      rw [← HWB.out] at h2 o2
      obtain ⟨c0, c1, c2, c3, c4⟩ := box_cells (HKEEP.out _ o2)
      have H2 := Lib.hid h2; have O2 := Lib.hid o2; clear h2 o2
      have hel := encU_len10 (n := k) (by omega)
      have hvl : vs.length ≤ 9223372036854775807 := by omega
      have hvl0 : (0 : Int) ≤ (vs.length : Int) := by omega
      have hb2 : (encVs false ks vs).length ≤ 1000000000 := by have := HLE'.out; rw [List.length_append] at this; omega
      have HB2 := Lib.hid hb2; clear hb2
      have hel2 := encU_len10 (n := vs.length) (by omega)
      go_wp2_with fail
      refine (rUint vs.length _ (by omega)).mono ?_
      rintro e w3 ⟨v3, rfl, h3, o3⟩
      have H3 := Lib.hid h3; have O3 := Lib.hid o3; clear h3 o3 c0 c1 c2 c3 c4
      go_wp2_with ((refine wpList_append8 (o := ⟨some 38, _, _, _, _, _⟩) rfl (.tmp 32) (.tmp 37) (by rfl) wb.heap.size _ _ (encU k) (encU vs.length) (by rfl) (by rfl) (H2.out.still O3.out) H3.out.bytes (by omega) (Nat.le_trans O2.out.size O3.out.size) ?_; intro L a3 c3 w9 hL h9 g9))
      have o9 : Only (fun _ => False) wb w9 := g9.out.step (O2.out.trans O3.out) (fun q hq => .inr ((H2.out.still O3.out).ge hq).1)
      have hst : Own8 w9 wb.heap.size (.slice a3 L.length c3) (encU k ++ encU vs.length ++ encVs false ks (vs.take 0)) := by simp only [List.take_zero, encVs, List.append_nil]; rw [← hL.out]; exact h9.out
      have HST := Lib.hid hst; have O9 := Lib.hid o9; clear hst o9
      go_wp2_with fail
      go_loopw [3, 4] (fun p v wr => ∃ i : Nat, v = .int .i64 (i : Int) ∧ i ≤ vs.length ∧ Hid (Own8 wr wb.heap.size p (encU k ++ encU vs.length ++ encVs false ks (vs.take i))) ∧ Hid (Only (fun _ => False) wb wr)) (fun _ v _ => vs.length - (intOf v).toNat)
      case atStart => exact ⟨0, by simp, by omega, HST, O9⟩
      case round =>
        obtain ⟨i, rfl, hi, HW, HO⟩ := hrel
        obtain ⟨c0, c1, c2, c3', c4⟩ := box_cells (HKEEP.out _ HO.out)
        by_cases hlt : i < vs.length
        · have t1 : decide ((i : Int) < (vs.length : Int)) = true := by simpa using hlt
          have hi0 : (0 : Int) ≤ (i : Int) := by omega
          have hi1 : (i : Int) < (vs.length : Int) := by omega
          obtain ⟨bv, offv, hav, hGv, hbv, hvals⟩ := HV.out (by omega)
          subst hav
          obtain ⟨cs, hcl, hcr, hcv'⟩ := valsAt_get hvals i hlt
          obtain ⟨k', n', s', ak', lk', ck', av', lv', cv', rfl⟩ := valAt_form hcv'
          have oww : Only (fun _ => False) w wr := HOB.out.trans HO.out
          have hle2 := encVs_le false ks vs i hlt
          have HLE2 := Lib.hid hle2; have HCR := Lib.hid hcr; have HCV := Lib.hid hcv'; have OWW := Lib.hid oww
          clear hle2 hcr hcv' oww hvals hcl
          obtain ⟨L, hL2⟩ : ∃ L, L = (encU k ++ encU vs.length ++ encVs false ks (vs.take i)) := ⟨_, rfl⟩
          have h9 := HW.out
          rw [← hL2] at h9
          have H9 := Lib.hid h9; have O9b := Lib.hid HO.out
          go_upto_region 19 with (fail)
          clear h9 c0 c1 c2 c3' c4
          have HL2 := Lib.hid hL2; clear hL2
          obtain ⟨c0, c1, c2, c3', c4⟩ := box_cells (HKEEP.out _ O9b.out)
          have hrg := range_only HCR.out hbv (HOB.out.trans O9b.out) (fun h => h)
          have hv9 := valAt_only (S := fun _ => False) (HOB.out.trans O9b.out) (fun _ _ h => h) vs[i] _ HCV.out
          have hrec := IH.out vs[i] (by have h1 := sizeOf_get (k := k) (n := n) (s := s) (ks := ks) i hlt; have h2 := HT.out; omega) G wr _ hv9 (goodVs_get HGOOD.out.2 i hlt) (by have h1 := HLE2.out; have h2 := HB2.out; omega)
          have HREC := Lib.hid hrec; have HRG := Lib.hid hrg; clear hrec hrg hv9
          refine wp_region_lit ?_
          iterate 5 (refine wpList_plain rfl fun J hJ => ?_; go_simp; refine hJ _ _ ?_; clear hJ J)
          refine wpList_load_mid rfl 35 (.tmp 61) rfl bv (offv + i * 5) (by rfl) [.int .u8 k', .int .i64 n', .string ⟨s'.toArray⟩, .slice ak' lk' ck', .slice av' lv' cv'] _ HRG.out Try.underlying35 rfl (by kernel_rfl) ?_
          go_wp2_with fail
          refine HREC.out.mono ?_
          rintro e w7 ⟨v7, rfl, h7, o7⟩
          have H7 := Lib.hid h7; have O7 := Lib.hid o7; clear h7 o7 c0 c1 c2 c3' c4
          go_wp2_with ((refine wpList_append8 (o := ⟨some 64, _, _, _, _, _⟩) rfl (.tmp 57) (.tmp 63) (by rfl) wb.heap.size _ _ L (encV vs[i]) (by rfl) (by rfl) (H9.out.still O7.out) H7.out.bytes (by have h0 := HL2.out; have h1 := HLE2.out; have h2 := HB2.out; rw [h0]; simp only [List.length_append]; omega) (Nat.le_trans O9b.out.size O7.out.size) ?_; intro L8 a8 c8 w8 hL8 h8 g8))
          go_roundw
          case rel => exact ⟨i + 1, by simp [go_sem], by omega, Lib.hid (by rw [encVs_snoc false ks vs i hlt, if_neg (by decide), List.nil_append, ← List.append_assoc]; have := h8.out; rw [hL8.out, HL2.out] at this ⊢; simp only [List.append_assoc] at this ⊢; exact this), Lib.hid (g8.out.step (O9b.out.trans O7.out) (fun q hq => .inr ((H9.out.still O7.out).ge hq).1))⟩
          case measure => simp [intOf]; omega
        · have hke : i = vs.length := by omega
          subst hke
          have t1 : decide ((vs.length : Int) < (vs.length : Int)) = false := by simp
          have h9 := HW.out
          rw [List.take_length, List.append_assoc] at h9
          have H9 := Lib.hid h9; clear h9
          go_wp2_with fail
          go_ret
          exact ⟨_, rfl, H9.out.mono HOB.out.size, HOB.out.trans HO.out⟩
    · have n1 : ((k : Int) == 1) = false := by simp; omega
      have n2 : ((k : Int) == 2) = false := by simp; omega
      have n3 : ((k : Int) == 3) = false := by simp; omega
      have n4 : ((k : Int) == 4) = false := by simp; omega
      have n5 : ((k : Int) == 5) = false := by simp; omega
      have n6 : ((k : Int) == 6) = true := by simp; omega
      have n7 : ((k : Int) == 7) = false := by simp; omega
      have n8 : ((k : Int) == 8) = false := by simp; omega
      have hr : (if k = 1 ∨ k = 3 then encU (zig n) else if k = 2 ∨ k = 4 ∨ k = 7 ∨ k = 8 then encT s else if k = 5 ∨ k = 6 then encU vs.length ++ encVs (decide (k = 6)) ks vs else []) = encU vs.length ++ encVs true ks vs := by rw [if_neg (by omega), if_neg (by omega), if_pos (by omega), show decide (k = 6) = true from by simp; omega]
      have hle := HLE.out
      rw [hr] at hle ⊢
      have HLE' := Lib.hid hle; clear hle hr HLE
      have HKK := Lib.hid hkk; clear hkk
      go_enter Try.func26, Try.ntmps26
      go_wp2_with fail
      refine HU.out.mono ?_
      rintro e w2 ⟨v2, rfl, h2, o2⟩
      rw [← HWB.out] at h2 o2
      obtain ⟨c0, c1, c2, c3, c4⟩ := box_cells (HKEEP.out _ o2)
      have H2 := Lib.hid h2; have O2 := Lib.hid o2; clear h2 o2
      have hel := encU_len10 (n := k) (by omega)
      have hvl : vs.length ≤ 9223372036854775807 := by omega
      have hvl0 : (0 : Int) ≤ (vs.length : Int) := by omega
      have hb2 : (encVs true ks vs).length ≤ 1000000000 := by have := HLE'.out; rw [List.length_append] at this; omega
      have HB2 := Lib.hid hb2; clear hb2
      have hel2 := encU_len10 (n := vs.length) (by omega)
      go_wp2_with fail
      refine (rUint vs.length _ (by omega)).mono ?_
      rintro e w3 ⟨v3, rfl, h3, o3⟩
      have H3 := Lib.hid h3; have O3 := Lib.hid o3; clear h3 o3 c0 c1 c2 c3 c4
      go_wp2_with ((refine wpList_append8 (o := ⟨some 38, _, _, _, _, _⟩) rfl (.tmp 32) (.tmp 37) (by rfl) wb.heap.size _ _ (encU k) (encU vs.length) (by rfl) (by rfl) (H2.out.still O3.out) H3.out.bytes (by omega) (Nat.le_trans O2.out.size O3.out.size) ?_; intro L a3 c3 w9 hL h9 g9))
      have o9 : Only (fun _ => False) wb w9 := g9.out.step (O2.out.trans O3.out) (fun q hq => .inr ((H2.out.still O3.out).ge hq).1)
      have hst : Own8 w9 wb.heap.size (.slice a3 L.length c3) (encU k ++ encU vs.length ++ encVs true ks (vs.take 0)) := by simp only [List.take_zero, encVs, List.append_nil]; rw [← hL.out]; exact h9.out
      have HST := Lib.hid hst; have O9 := Lib.hid o9; clear hst o9
      go_wp2_with fail
      go_loopw [3, 4] (fun p v wr => ∃ i : Nat, v = .int .i64 (i : Int) ∧ i ≤ vs.length ∧ Hid (Own8 wr wb.heap.size p (encU k ++ encU vs.length ++ encVs true ks (vs.take i))) ∧ Hid (Only (fun _ => False) wb wr)) (fun _ v _ => vs.length - (intOf v).toNat)
      case atStart => exact ⟨0, by simp, by omega, HST, O9⟩
      case round =>
        obtain ⟨i, rfl, hi, HW, HO⟩ := hrel
        obtain ⟨c0, c1, c2, c3', c4⟩ := box_cells (HKEEP.out _ HO.out)
        by_cases hlt : i < vs.length
        · have t1 : decide ((i : Int) < (vs.length : Int)) = true := by simpa using hlt
          have hi0 : (0 : Int) ≤ (i : Int) := by omega
          have hi1 : (i : Int) < (vs.length : Int) := by omega
          obtain ⟨bv, offv, hav, hGv, hbv, hvals⟩ := HV.out (by omega)
          subst hav
          obtain ⟨cs, hcl, hcr, hcv'⟩ := valsAt_get hvals i hlt
          obtain ⟨k', n', s', ak', lk', ck', av', lv', cv', rfl⟩ := valAt_form hcv'
          have oww : Only (fun _ => False) w wr := HOB.out.trans HO.out
          have hle2 := encVs_le true ks vs i hlt
          have HLE2 := Lib.hid hle2; have HCR := Lib.hid hcr; have HCV := Lib.hid hcv'; have OWW := Lib.hid oww
          clear hle2 hcr hcv' oww hvals hcl
          have hkl : ks.length = vs.length := HGOOD.out.1 HKK.out
          obtain ⟨bk, offk, hak, hGk, hbk, hkr⟩ := HK.out (by omega)
          subst hak
          have hki : i < ks.length := by omega
          clear hkl
          have hkc : wr.cell? ⟨bk, offk + i, none⟩ = some (.string ⟨(ks[i]).toArray⟩) := range_only hkr hbk OWW.out (fun h => h) i (strV ks[i]) (by simp [hki])
          have hik1 : (i : Int) < (ks.length : Int) := by omega
          have hkd : ks.getD i [] = ks[i] := by rw [List.getD_eq_getElem?_getD, List.getElem?_eq_getElem hki]; rfl
          have hle3 : (encVs true ks (vs.take i)).length + ((encT ks[i]).length + (encV vs[i]).length) ≤ (encVs true ks vs).length := by have h1 := HLE2.out; rw [if_pos rfl, hkd] at h1; exact h1
          have HKD := Lib.hid hkd; have HLE3 := Lib.hid hle3; clear hkd hkr hle3
          go_wp2_with fail
          refine (rText ks[i] _ (by have h1 := HLE3.out; have h2 := HB2.out; unfold encT at h1; rw [List.length_append] at h1; omega)).mono ?_
          rintro e w5 ⟨v5, rfl, h5, o5⟩
          have H5 := Lib.hid h5; have O5 := Lib.hid o5; clear h5 o5
          go_upto_region 19 with ((refine wpList_append8 (o := ⟨some 56, _, _, _, _, _⟩) rfl (.tmp 49) (.tmp 55) (by rfl) wb.heap.size _ _ (encU k ++ encU vs.length ++ encVs true ks (vs.take i)) (encT ks[i]) (by rfl) (by rfl) (HW.out.still O5.out) H5.out.bytes (by have h1 := HLE3.out; have h2 := HB2.out; simp only [List.length_append]; omega) (Nat.le_trans HO.out.size O5.out.size) ?_; intro L a3 c3 w9 hL h9 g9))
          have o9 : Only (fun _ => False) wb w9 := g9.out.step (HO.out.trans O5.out) (fun q hq => .inr ((HW.out.still O5.out).ge hq).1)
          have hL2 := hL.out
          have H9 := Lib.hid h9.out; have O9b := Lib.hid o9
          clear c0 c1 c2 c3' c4 o9
          have HL2 := Lib.hid hL2; clear hL2
          obtain ⟨c0, c1, c2, c3', c4⟩ := box_cells (HKEEP.out _ O9b.out)
          have hrg := range_only HCR.out hbv (HOB.out.trans O9b.out) (fun h => h)
          have hv9 := valAt_only (S := fun _ => False) (HOB.out.trans O9b.out) (fun _ _ h => h) vs[i] _ HCV.out
          have hrec := IH.out vs[i] (by have h1 := sizeOf_get (k := k) (n := n) (s := s) (ks := ks) i hlt; have h2 := HT.out; omega) G w9 _ hv9 (goodVs_get HGOOD.out.2 i hlt) (by have h1 := HLE3.out; have h2 := HB2.out; omega)
          have HREC := Lib.hid hrec; have HRG := Lib.hid hrg; clear hrec hrg hv9
          refine wp_region_lit ?_
          iterate 5 (refine wpList_plain rfl fun J hJ => ?_; go_simp; refine hJ _ _ ?_; clear hJ J)
          refine wpList_load_mid rfl 35 (.tmp 61) rfl bv (offv + i * 5) (by rfl) [.int .u8 k', .int .i64 n', .string ⟨s'.toArray⟩, .slice ak' lk' ck', .slice av' lv' cv'] _ HRG.out Try.underlying35 rfl (by kernel_rfl) ?_
          go_wp2_with fail
          refine HREC.out.mono ?_
          rintro e w7 ⟨v7, rfl, h7, o7⟩
          have H7 := Lib.hid h7; have O7 := Lib.hid o7; clear h7 o7 c0 c1 c2 c3' c4
          go_wp2_with ((refine wpList_append8 (o := ⟨some 64, _, _, _, _, _⟩) rfl (.tmp 57) (.tmp 63) (by rfl) wb.heap.size _ _ L (encV vs[i]) (by rfl) (by rfl) (H9.out.still O7.out) H7.out.bytes (by have h0 := HL2.out; have h1 := HLE3.out; have h2 := HB2.out; rw [h0]; simp only [List.length_append]; omega) (Nat.le_trans O9b.out.size O7.out.size) ?_; intro L8 a8 c8 w8 hL8 h8 g8))
          go_roundw
          case rel => exact ⟨i + 1, by simp [go_sem], by omega, Lib.hid (by rw [encVs_snoc true ks vs i hlt, if_pos rfl, HKD.out, ← List.append_assoc]; have := h8.out; rw [hL8.out, HL2.out] at this ⊢; simp only [List.append_assoc] at this ⊢; exact this), Lib.hid (g8.out.step (O9b.out.trans O7.out) (fun q hq => .inr ((H9.out.still O7.out).ge hq).1))⟩
          case measure => simp [intOf]; omega
        · have hke : i = vs.length := by omega
          subst hke
          have t1 : decide ((vs.length : Int) < (vs.length : Int)) = false := by simp
          have h9 := HW.out
          rw [List.take_length, List.append_assoc] at h9
          have H9 := Lib.hid h9; clear h9
          go_wp2_with fail
          go_ret
          exact ⟨_, rfl, H9.out.mono HOB.out.size, HOB.out.trans HO.out⟩
    · have n1 : ((k : Int) == 1) = false := by simp; omega
      have n2 : ((k : Int) == 2) = false := by simp; omega
      have n3 : ((k : Int) == 3) = false := by simp; omega
      have n4 : ((k : Int) == 4) = false := by simp; omega
      have n5 : ((k : Int) == 5) = false := by simp; omega
      have n6 : ((k : Int) == 6) = false := by simp; omega
      have n7 : ((k : Int) == 7) = false := by simp; omega
      have n8 : ((k : Int) == 8) = false := by simp; omega
      have hr : (if k = 1 ∨ k = 3 then encU (zig n) else if k = 2 ∨ k = 4 ∨ k = 7 ∨ k = 8 then encT s else if k = 5 ∨ k = 6 then encU vs.length ++ encVs (decide (k = 6)) ks vs else []) = [] := by rw [if_neg (by omega), if_neg (by omega), if_neg (by omega)]
      have hle := HLE.out
      rw [hr] at hle ⊢
      have HLE' := Lib.hid hle; clear hle hr HLE
      have HKK := Lib.hid hkk; clear hkk
      go_enter Try.func26, Try.ntmps26
      go_wp2_with fail
      refine HU.out.mono ?_
      rintro e w2 ⟨v2, rfl, h2, o2⟩
      rw [← HWB.out] at h2 o2
      obtain ⟨c0, c1, c2, c3, c4⟩ := box_cells (HKEEP.out _ o2)
      have H2 := Lib.hid h2; have O2 := Lib.hid o2; clear h2 o2
      have hel := encU_len10 (n := k) (by omega)
      go_wp2_with fail
      go_ret
      rw [List.append_nil]
      exact ⟨_, rfl, H2.out.mono HOB.out.size, HOB.out.trans O2.out⟩
end Go.Proofs.Ytoojnpafcdaflaa
