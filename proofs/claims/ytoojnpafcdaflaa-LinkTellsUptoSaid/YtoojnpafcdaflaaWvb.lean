/- Package wire: the writer's Value. -/
import Derived.Test.YtoojnpafcdaflaaVal
namespace Go.Proofs.Ytoojnpafcdaflaa
open Go Go.RowKit
set_option linter.unusedVariables false
set_option linter.unusedSimpArgs false

theorem zero_V (w : World) : (zeroValue 35).run Try.prog w = .ok (.agg #[.int .u8 0, .int .i64 0, .string ByteArray.empty, .slice none 0 0, .slice none 0 0]) w := by kernel_rfl
/-- The box of a value, where it lies: what the walk is told. -/
theorem box_cells {w : World} {g : Nat} {c0 c1 c2 c3 c4 : Value} (h : w.heap[g]? = some (.cells #[c0, c1, c2, c3, c4] 35 (0, 0))) :
    w.cell? ⟨g, 0, none⟩ = some c0 ∧ w.cell? ⟨g, 1, none⟩ = some c1 ∧ w.cell? ⟨g, 2, none⟩ = some c2 ∧ w.cell? ⟨g, 3, none⟩ = some c3 ∧ w.cell? ⟨g, 4, none⟩ = some c4 := by
  refine ⟨?_, ?_, ?_, ?_, ?_⟩ <;> simp [World.cell?, h]
theorem range5 {w : World} {b off : Nat} {c0 c1 c2 c3 c4 : Value} (h : w.rangeAt b off [c0, c1, c2, c3, c4]) :
    w.cell? ⟨b, off, none⟩ = some c0 ∧ w.cell? ⟨b, off + 1, none⟩ = some c1 ∧ w.cell? ⟨b, off + 2, none⟩ = some c2 ∧ w.cell? ⟨b, off + 3, none⟩ = some c3 ∧ w.cell? ⟨b, off + 4, none⟩ = some c4 :=
  ⟨h 0 _ rfl, h 1 _ rfl, h 2 _ rfl, h 3 _ rfl, h 4 _ rfl⟩
theorem valAt_form {w : World} {G : Nat → Prop} {t : VT} {cs : List Value} (h : ValAt w G t cs) : ∃ (k : Nat) (n : Int) (s : List UInt8) (ak : Option Addr) (lk ck : Nat) (av : Option Addr) (lv cv : Nat), cs = [.int .u8 k, .int .i64 n, .string ⟨s.toArray⟩, .slice ak lk ck, .slice av lv cv] := by
  obtain ⟨k, n, s, ks, vs⟩ := t
  simp only [ValAt] at h
  obtain ⟨ak, ck, av, cv, e, _⟩ := h
  exact ⟨k, n, s, ak, _, ck, av, _, cv, e⟩

set_option maxRecDepth 100000 in
set_option maxHeartbeats 8000000 in
theorem wValue : ∀ (z : Nat) (t : VT), SizeOf.sizeOf t ≤ z → ∀ (F G : Nat → Prop) (b : Nat) (w1 : World) (l : List UInt8) (w : World) (cs : List Value), WS F b w1 l w → ValAt w G t cs → GoodV t → (∀ q, G q → q < w1.heap.size ∧ ¬ F q) →
    (encV t).length ≤ 1000000000 → l.length + (encV t).length ≤ 90000000000 → Calls Try.prog 37 #[.pointer (some ⟨b, 0, none⟩), .agg cs.toArray] w (WSP F b w1 (l ++ encV t)) := by
  intro z
  induction z with
  | zero => intro t ht; exfalso; obtain ⟨k, n, s, ks, vs⟩ := t; simp only [VT.mk.sizeOf_spec] at ht; omega
  | succ z ih =>
    intro t ht F G b w1 l w cs h hv hgood hG hle hll
    obtain ⟨k, n, s, ks, vs⟩ := t
    have IH := Lib.hid ih; clear ih
    have HT := Lib.hid ht; clear ht
    have hv' := hv
    simp only [ValAt] at hv
    simp only [GoodV] at hgood
    obtain ⟨ak, ck, av, cv, rfl, hk, hn, hs, hck, hcv, hK, hV⟩ := hv
    have hwb : ∃ wb, wb = w.alloc (.cells #[.int .u8 k, .int .i64 n, .string ⟨s.toArray⟩, .slice ak ks.length ck, .slice av vs.length cv] 35) := ⟨_, rfl⟩
    obtain ⟨wb, hwb⟩ := hwb
    have ob : Only (fun _ => False) w wb := by rw [hwb]; exact (Only.refl _ w).alloc _
    have hbox : wb.heap[w.heap.size]? = some (.cells #[.int .u8 k, .int .i64 n, .string ⟨s.toArray⟩, .slice ak ks.length ck, .slice av vs.length cv] 35 (0, 0)) := by rw [hwb]; exact heap_new w _
    obtain ⟨F1, hs1, hF1, hback⟩ := h.rebase ob
    have hGF : ∀ q, G q → q < w.heap.size ∧ ¬ F1 q := fun q hq => ⟨Nat.lt_of_lt_of_le (hG q hq).1 h.only.size, fun hf => (hF1 q hf).2.elim (hG q hq).2 (by have := (hG q hq).1; omega)⟩
    have hkeep : ∀ l' w', WS F1 b wb l' w' → w'.heap[w.heap.size]? = some (.cells #[.int .u8 k, .int .i64 n, .string ⟨s.toArray⟩, .slice ak ks.length ck, .slice av vs.length cv] 35 (0, 0)) := fun l' w' hw => by
      rw [hw.only.block _ (Array.getElem?_eq_some_iff.1 hbox).1 (fun hf => by have := (hF1 _ hf).1; omega)]; exact hbox
    have HKEEP := Lib.hid hkeep; have HBACK := Lib.hid hback; have HGF := Lib.hid hGF; have HS1 := Lib.hid hs1; have HOB := Lib.hid ob; have HGOOD := Lib.hid hgood
    have HK := Lib.hid hK; have HV := Lib.hid hV; have HBOX := Lib.hid hbox; have HWB := Lib.hid hwb
    clear hkeep hback hGF hs1 ob hgood hK hV hbox hF1 h hG hv' hwb
    have hE : encV (.mk k n s ks vs) = encU k ++ (if k = 1 ∨ k = 3 then encU (zig n) else if k = 2 ∨ k = 4 ∨ k = 7 ∨ k = 8 then encT s else if k = 5 ∨ k = 6 then encU vs.length ++ encVs (decide (k = 6)) ks vs else []) := by simp only [encV]
    rw [hE] at hle hll ⊢
    clear hE
    have hk0 : (0 : Int) ≤ (k : Int) := by omega
    have hk1 : (k : Int) ≤ 255 := by omega
    rw [List.length_append] at hle hll
    have hl0 : l.length ≤ 90000000000 := by omega
    have hu := wUint_s k F1 b wb l wb HS1.out (by omega) (by omega)
    rw [HWB.out] at hu
    have HU := Lib.hid hu; clear hu
    have HLE := Lib.hid hle; have HLL := Lib.hid hll; clear hle hll
    have hcase : k = 1 ∨ k = 3 ∨ k = 2 ∨ k = 4 ∨ k = 7 ∨ k = 8 ∨ k = 5 ∨ k = 6 ∨ (k = 0 ∨ 9 ≤ k) := by omega
    rcases hcase with hkk | hkk | hkk | hkk | hkk | hkk | hkk | hkk | hkk
    · have n1 : ((k : Int) == 1) = true := by simp; omega
      have n2 : ((k : Int) == 2) = false := by simp; omega
      have n3 : ((k : Int) == 3) = false := by simp; omega
      have n4 : ((k : Int) == 4) = false := by simp; omega
      have n5 : ((k : Int) == 5) = false := by simp; omega
      have n6 : ((k : Int) == 6) = false := by simp; omega
      have n7 : ((k : Int) == 7) = false := by simp; omega
      have n8 : ((k : Int) == 8) = false := by simp; omega
      have hr : (if k = 1 ∨ k = 3 then encU (zig n) else if k = 2 ∨ k = 4 ∨ k = 7 ∨ k = 8 then encT s else if k = 5 ∨ k = 6 then encU vs.length ++ encVs (decide (k = 6)) ks vs else []) = encU (zig n) := by rw [if_pos (by omega)]
      have hle := HLE.out; have hll := HLL.out
      rw [hr] at hle hll ⊢
      have HLE' := Lib.hid hle; have HLL' := Lib.hid hll; clear hle hll hr HLE HLL
      have HKK := Lib.hid hkk; clear hkk
      go_enter Try.func37, Try.ntmps37
      go_wp2_with fail
      refine HU.out.mono ?_
      rintro e w2 ⟨rfl, h2⟩
      obtain ⟨c0, c1, c2, c3, c4⟩ := box_cells (HKEEP.out _ _ (HWB.out ▸ h2))
      have H2 := Lib.hid h2; clear h2
      have hel := encU_len10 (n := k) (by omega)
      go_wp2_with fail
      refine (wInt_s n F1 b _ (l ++ encU k) _ H2.out hn.1 hn.2 (by rw [List.length_append]; omega)).mono ?_
      rintro e w3 ⟨rfl, h3⟩
      have H3 := Lib.hid h3; clear h3 c0 c1 c2 c3 c4
      go_wp2_with fail
      go_ret
      exact ⟨rfl, by rw [← List.append_assoc]; exact HBACK.out _ _ (HWB.out ▸ H3.out)⟩
    · have n1 : ((k : Int) == 1) = false := by simp; omega
      have n2 : ((k : Int) == 2) = false := by simp; omega
      have n3 : ((k : Int) == 3) = true := by simp; omega
      have n4 : ((k : Int) == 4) = false := by simp; omega
      have n5 : ((k : Int) == 5) = false := by simp; omega
      have n6 : ((k : Int) == 6) = false := by simp; omega
      have n7 : ((k : Int) == 7) = false := by simp; omega
      have n8 : ((k : Int) == 8) = false := by simp; omega
      have hr : (if k = 1 ∨ k = 3 then encU (zig n) else if k = 2 ∨ k = 4 ∨ k = 7 ∨ k = 8 then encT s else if k = 5 ∨ k = 6 then encU vs.length ++ encVs (decide (k = 6)) ks vs else []) = encU (zig n) := by rw [if_pos (by omega)]
      have hle := HLE.out; have hll := HLL.out
      rw [hr] at hle hll ⊢
      have HLE' := Lib.hid hle; have HLL' := Lib.hid hll; clear hle hll hr HLE HLL
      have HKK := Lib.hid hkk; clear hkk
      go_enter Try.func37, Try.ntmps37
      go_wp2_with fail
      refine HU.out.mono ?_
      rintro e w2 ⟨rfl, h2⟩
      obtain ⟨c0, c1, c2, c3, c4⟩ := box_cells (HKEEP.out _ _ (HWB.out ▸ h2))
      have H2 := Lib.hid h2; clear h2
      have hel := encU_len10 (n := k) (by omega)
      go_wp2_with fail
      refine (wInt_s n F1 b _ (l ++ encU k) _ H2.out hn.1 hn.2 (by rw [List.length_append]; omega)).mono ?_
      rintro e w3 ⟨rfl, h3⟩
      have H3 := Lib.hid h3; clear h3 c0 c1 c2 c3 c4
      go_wp2_with fail
      go_ret
      exact ⟨rfl, by rw [← List.append_assoc]; exact HBACK.out _ _ (HWB.out ▸ H3.out)⟩
    · have n1 : ((k : Int) == 1) = false := by simp; omega
      have n2 : ((k : Int) == 2) = true := by simp; omega
      have n3 : ((k : Int) == 3) = false := by simp; omega
      have n4 : ((k : Int) == 4) = false := by simp; omega
      have n5 : ((k : Int) == 5) = false := by simp; omega
      have n6 : ((k : Int) == 6) = false := by simp; omega
      have n7 : ((k : Int) == 7) = false := by simp; omega
      have n8 : ((k : Int) == 8) = false := by simp; omega
      have hr : (if k = 1 ∨ k = 3 then encU (zig n) else if k = 2 ∨ k = 4 ∨ k = 7 ∨ k = 8 then encT s else if k = 5 ∨ k = 6 then encU vs.length ++ encVs (decide (k = 6)) ks vs else []) = encT s := by rw [if_neg (by omega), if_pos (by omega)]
      have hle := HLE.out; have hll := HLL.out
      rw [hr] at hle hll ⊢
      have HLE' := Lib.hid hle; have HLL' := Lib.hid hll; clear hle hll hr HLE HLL
      have HKK := Lib.hid hkk; clear hkk
      go_enter Try.func37, Try.ntmps37
      go_wp2_with fail
      refine HU.out.mono ?_
      rintro e w2 ⟨rfl, h2⟩
      obtain ⟨c0, c1, c2, c3, c4⟩ := box_cells (HKEEP.out _ _ (HWB.out ▸ h2))
      have H2 := Lib.hid h2; clear h2
      have hel := encU_len10 (n := k) (by omega)
      go_wp2_with fail
      refine (wText_s s F1 b _ (l ++ encU k) _ H2.out (by have := HLE'.out; unfold encT at this; rw [List.length_append] at this; omega) (by rw [List.length_append]; omega)).mono ?_
      rintro e w3 ⟨rfl, h3⟩
      have H3 := Lib.hid h3; clear h3 c0 c1 c2 c3 c4
      go_wp2_with fail
      go_ret
      exact ⟨rfl, by rw [← List.append_assoc]; exact HBACK.out _ _ (HWB.out ▸ H3.out)⟩
    · have n1 : ((k : Int) == 1) = false := by simp; omega
      have n2 : ((k : Int) == 2) = false := by simp; omega
      have n3 : ((k : Int) == 3) = false := by simp; omega
      have n4 : ((k : Int) == 4) = true := by simp; omega
      have n5 : ((k : Int) == 5) = false := by simp; omega
      have n6 : ((k : Int) == 6) = false := by simp; omega
      have n7 : ((k : Int) == 7) = false := by simp; omega
      have n8 : ((k : Int) == 8) = false := by simp; omega
      have hr : (if k = 1 ∨ k = 3 then encU (zig n) else if k = 2 ∨ k = 4 ∨ k = 7 ∨ k = 8 then encT s else if k = 5 ∨ k = 6 then encU vs.length ++ encVs (decide (k = 6)) ks vs else []) = encT s := by rw [if_neg (by omega), if_pos (by omega)]
      have hle := HLE.out; have hll := HLL.out
      rw [hr] at hle hll ⊢
      have HLE' := Lib.hid hle; have HLL' := Lib.hid hll; clear hle hll hr HLE HLL
      have HKK := Lib.hid hkk; clear hkk
      go_enter Try.func37, Try.ntmps37
      go_wp2_with fail
      refine HU.out.mono ?_
      rintro e w2 ⟨rfl, h2⟩
      obtain ⟨c0, c1, c2, c3, c4⟩ := box_cells (HKEEP.out _ _ (HWB.out ▸ h2))
      have H2 := Lib.hid h2; clear h2
      have hel := encU_len10 (n := k) (by omega)
      go_wp2_with fail
      refine (wText_s s F1 b _ (l ++ encU k) _ H2.out (by have := HLE'.out; unfold encT at this; rw [List.length_append] at this; omega) (by rw [List.length_append]; omega)).mono ?_
      rintro e w3 ⟨rfl, h3⟩
      have H3 := Lib.hid h3; clear h3 c0 c1 c2 c3 c4
      go_wp2_with fail
      go_ret
      exact ⟨rfl, by rw [← List.append_assoc]; exact HBACK.out _ _ (HWB.out ▸ H3.out)⟩
    · have n1 : ((k : Int) == 1) = false := by simp; omega
      have n2 : ((k : Int) == 2) = false := by simp; omega
      have n3 : ((k : Int) == 3) = false := by simp; omega
      have n4 : ((k : Int) == 4) = false := by simp; omega
      have n5 : ((k : Int) == 5) = false := by simp; omega
      have n6 : ((k : Int) == 6) = false := by simp; omega
      have n7 : ((k : Int) == 7) = true := by simp; omega
      have n8 : ((k : Int) == 8) = false := by simp; omega
      have hr : (if k = 1 ∨ k = 3 then encU (zig n) else if k = 2 ∨ k = 4 ∨ k = 7 ∨ k = 8 then encT s else if k = 5 ∨ k = 6 then encU vs.length ++ encVs (decide (k = 6)) ks vs else []) = encT s := by rw [if_neg (by omega), if_pos (by omega)]
      have hle := HLE.out; have hll := HLL.out
      rw [hr] at hle hll ⊢
      have HLE' := Lib.hid hle; have HLL' := Lib.hid hll; clear hle hll hr HLE HLL
      have HKK := Lib.hid hkk; clear hkk
      go_enter Try.func37, Try.ntmps37
      go_wp2_with fail
      refine HU.out.mono ?_
      rintro e w2 ⟨rfl, h2⟩
      obtain ⟨c0, c1, c2, c3, c4⟩ := box_cells (HKEEP.out _ _ (HWB.out ▸ h2))
      have H2 := Lib.hid h2; clear h2
      have hel := encU_len10 (n := k) (by omega)
      go_wp2_with fail
      refine (wText_s s F1 b _ (l ++ encU k) _ H2.out (by have := HLE'.out; unfold encT at this; rw [List.length_append] at this; omega) (by rw [List.length_append]; omega)).mono ?_
      rintro e w3 ⟨rfl, h3⟩
      have H3 := Lib.hid h3; clear h3 c0 c1 c2 c3 c4
      go_wp2_with fail
      go_ret
      exact ⟨rfl, by rw [← List.append_assoc]; exact HBACK.out _ _ (HWB.out ▸ H3.out)⟩
    · have n1 : ((k : Int) == 1) = false := by simp; omega
      have n2 : ((k : Int) == 2) = false := by simp; omega
      have n3 : ((k : Int) == 3) = false := by simp; omega
      have n4 : ((k : Int) == 4) = false := by simp; omega
      have n5 : ((k : Int) == 5) = false := by simp; omega
      have n6 : ((k : Int) == 6) = false := by simp; omega
      have n7 : ((k : Int) == 7) = false := by simp; omega
      have n8 : ((k : Int) == 8) = true := by simp; omega
      have hr : (if k = 1 ∨ k = 3 then encU (zig n) else if k = 2 ∨ k = 4 ∨ k = 7 ∨ k = 8 then encT s else if k = 5 ∨ k = 6 then encU vs.length ++ encVs (decide (k = 6)) ks vs else []) = encT s := by rw [if_neg (by omega), if_pos (by omega)]
      have hle := HLE.out; have hll := HLL.out
      rw [hr] at hle hll ⊢
      have HLE' := Lib.hid hle; have HLL' := Lib.hid hll; clear hle hll hr HLE HLL
      have HKK := Lib.hid hkk; clear hkk
      go_enter Try.func37, Try.ntmps37
      go_wp2_with fail
      refine HU.out.mono ?_
      rintro e w2 ⟨rfl, h2⟩
      obtain ⟨c0, c1, c2, c3, c4⟩ := box_cells (HKEEP.out _ _ (HWB.out ▸ h2))
      have H2 := Lib.hid h2; clear h2
      have hel := encU_len10 (n := k) (by omega)
      go_wp2_with fail
      refine (wText_s s F1 b _ (l ++ encU k) _ H2.out (by have := HLE'.out; unfold encT at this; rw [List.length_append] at this; omega) (by rw [List.length_append]; omega)).mono ?_
      rintro e w3 ⟨rfl, h3⟩
      have H3 := Lib.hid h3; clear h3 c0 c1 c2 c3 c4
      go_wp2_with fail
      go_ret
      exact ⟨rfl, by rw [← List.append_assoc]; exact HBACK.out _ _ (HWB.out ▸ H3.out)⟩
    · have n1 : ((k : Int) == 1) = false := by simp; omega
      have n2 : ((k : Int) == 2) = false := by simp; omega
      have n3 : ((k : Int) == 3) = false := by simp; omega
      have n4 : ((k : Int) == 4) = false := by simp; omega
      have n5 : ((k : Int) == 5) = true := by simp; omega
      have n6 : ((k : Int) == 6) = false := by simp; omega
      have n7 : ((k : Int) == 7) = false := by simp; omega
      have n8 : ((k : Int) == 8) = false := by simp; omega
      have hr : (if k = 1 ∨ k = 3 then encU (zig n) else if k = 2 ∨ k = 4 ∨ k = 7 ∨ k = 8 then encT s else if k = 5 ∨ k = 6 then encU vs.length ++ encVs (decide (k = 6)) ks vs else []) = encU vs.length ++ encVs false ks vs := by rw [if_neg (by omega), if_neg (by omega), if_pos (by omega), show decide (k = 6) = false from by simp; omega]
      have hle := HLE.out; have hll := HLL.out
      rw [hr] at hle hll ⊢
      have HLE' := Lib.hid hle; have HLL' := Lib.hid hll; clear hle hll hr HLE HLL
      have HKK := Lib.hid hkk; clear hkk
      go_enter Try.func37, Try.ntmps37
      go_wp2_with fail
      refine HU.out.mono ?_
      rintro e w2 ⟨rfl, h2⟩
      obtain ⟨c0, c1, c2, c3, c4⟩ := box_cells (HKEEP.out _ _ (HWB.out ▸ h2))
      have H2 := Lib.hid h2; clear h2
      have hel := encU_len10 (n := k) (by omega)
      have hvl : vs.length ≤ 9223372036854775807 := by omega
      have hvl0 : (0 : Int) ≤ (vs.length : Int) := by omega
      have hll' := HLL'.out; have hle' := HLE'.out
      rw [List.length_append] at hll' hle'
      have hb1 : l.length + 10 + 10 + (encVs false ks vs).length ≤ 100000000000 := by omega
      have hb2 : (encVs false ks vs).length ≤ 1000000000 := by omega
      have HB1 := Lib.hid hb1; have HB2 := Lib.hid hb2; clear hb1 hb2 hll' hle'
      have hel2 := encU_len10 (n := vs.length) (by omega)
      go_wp2_with fail
      refine (wUint_s vs.length F1 b _ (l ++ encU k) _ H2.out (by omega) (by rw [List.length_append]; omega)).mono ?_
      rintro e w3 ⟨rfl, h3⟩
      clear c0 c1 c2 c3 c4
      obtain ⟨c0, c1, c2, c3, c4⟩ := box_cells (HKEEP.out _ _ (HWB.out ▸ h3))
      have H3 : Hid (WS F1 b wb (l ++ encU k ++ encU vs.length ++ encVs false ks (vs.take 0)) w3) := Lib.hid (by simp only [List.take_zero, encVs, List.append_nil]; exact HWB.out ▸ h3)
      clear h3
      go_wp2_with fail
      go_loopw [42] (fun v wr => ∃ i : Nat, v = .int .i64 (i : Int) ∧ i ≤ vs.length ∧ Hid (WS F1 b wb (l ++ encU k ++ encU vs.length ++ encVs false ks (vs.take i)) wr)) (fun v _ => vs.length - (intOf v).toNat)
      case atStart => exact ⟨0, by simp, by omega, H3⟩
      case round =>
        obtain ⟨i, rfl, hi, HW⟩ := hrel
        clear c0 c1 c2 c3 c4
        by_cases hlt : i < vs.length
        · have t1 : decide ((i : Int) < (vs.length : Int)) = true := by simpa using hlt
          have hi0 : (0 : Int) ≤ (i : Int) := by omega
          have hi1 : (i : Int) < (vs.length : Int) := by omega
          obtain ⟨bv, offv, hav, hGv, hbv, hvals⟩ := HV.out (by omega)
          subst hav
          obtain ⟨cs, hcl, hcr, hcv'⟩ := valsAt_get hvals i hlt
          obtain ⟨k', n', s', ak', lk', ck', av', lv', cv', rfl⟩ := valAt_form hcv'
          have oww : Only F1 w wr := (HOB.out.mono (T := F1) (fun _ _ h => h.elim)).trans HW.out.only
          have hcr2 := range_only hcr hbv oww (HGF.out bv hGv).2
          have o4 : Only (fun _ => False) wr (wr.alloc (.cells #[.int .u8 k', .int .i64 n', .string ⟨s'.toArray⟩, .slice ak' lk' ck', .slice av' lv' cv'] 35)) := (Only.refl _ wr).alloc _
          have hnb := heap_new wr (.cells #[.int .u8 k', .int .i64 n', .string ⟨s'.toArray⟩, .slice ak' lk' ck', .slice av' lv' cv'] 35)
          obtain ⟨F2, hs2, hF2, hback2⟩ := HW.out.rebase o4
          have hbx4 := HKEEP.out _ _ (HW.out.still o4)
          obtain ⟨c0, c1, c2, c3, c4⟩ := box_cells (HKEEP.out _ _ HW.out)
          obtain ⟨d0, d1, d2, d3, d4⟩ := box_cells hbx4
          have hwsz : w.heap.size ≤ wr.heap.size := oww.size
          have hbsz : w.heap.size < wr.heap.size := (Array.getElem?_eq_some_iff.1 (HKEEP.out _ _ HW.out)).1
          have hle2 := encVs_le false ks vs i hlt
          have HLE2 := Lib.hid hle2; have HF2 := Lib.hid hF2; have HBK2 := Lib.hid hback2; have HS2 := Lib.hid hs2; have HCR2 := Lib.hid hcr2; have HCV := Lib.hid hcv'; have OWW := Lib.hid oww; have O4 := Lib.hid o4; have HNB := Lib.hid hnb
          clear hle2 hF2 hback2 hs2 hcr2 hcr hcv' oww o4 hnb hbx4 hvals hcl
          have hz := zero_V
          go_upto_region 16 with (fail)
          refine wp_region_lit ?_
          iterate 2 (refine wpList_plain rfl fun J hJ => ?_; go_simp; refine hJ _ _ ?_; clear hJ J)
          refine wpList_load_mid rfl 35 (.tmp 45) rfl bv (offv + i * 5) (by rfl) [.int .u8 k', .int .i64 n', .string ⟨s'.toArray⟩, .slice ak' lk' ck', .slice av' lv' cv'] _ HCR2.out Try.underlying35 rfl (by kernel_rfl) ?_
          go_upto_region 17 with (fail)
          clear c0 c1 c2 c3 c4 hz
          generalize hw4 : wr.alloc (.cells #[.int .u8 k', .int .i64 n', .string ⟨s'.toArray⟩, .slice ak' lk' ck', .slice av' lv' cv'] 35) = w4 at *
          have HW4 := Lib.hid hw4; clear hw4
          have h5 := HS2.out
          obtain ⟨w5, hw5⟩ : ∃ w5, w5 = w4 := ⟨_, rfl⟩
          have h5 : WS F2 b w4 (l ++ encU k ++ encU vs.length ++ encVs false ks (vs.take i)) w4 := HS2.out
          have hb5 : w4.rangeAt wr.heap.size 0 [.int .u8 k', .int .i64 n', .string ⟨s'.toArray⟩, .slice ak' lk' ck', .slice av' lv' cv'] := range_of_block (by rw [h5.only.block _ (Array.getElem?_eq_some_iff.1 HNB.out).1 (fun hf => by have := (HF2.out _ hf).1; omega)]; exact HNB.out)
          have hv5 : ValAt w4 G vs[i] [.int .u8 k', .int .i64 n', .string ⟨s'.toArray⟩, .slice ak' lk' ck', .slice av' lv' cv'] := valAt_only (S := fun q => F1 q ∨ F2 q) (((OWW.out.mono (fun q _ h => .inl h)).trans' O4.out (fun _ _ h => h.elim)).trans' h5.only (fun q _ h => .inr h)) (fun q hq h => h.elim (HGF.out q hq).2 (fun h => by have h1 := (HF2.out q h).2; have h2 := (HGF.out q hq); rcases h1 with h1 | h1; exact h2.2 h1; have := HOB.out.size; omega)) vs[i] _ HCV.out
          have hrec := IH.out vs[i] (by have h1 := sizeOf_get (k := k) (n := n) (s := s) (ks := ks) i hlt; have h2 := HT.out; omega) F2 G b w4 (l ++ encU k ++ encU vs.length ++ encVs false ks (vs.take i)) w4 _ h5 hv5 (goodVs_get HGOOD.out.2 i hlt) (fun q hq => ⟨by have h1 := (HGF.out q hq).1; have h2 := O4.out.size; omega, fun h => by have h1 := (HF2.out q h).2; have h2 := (HGF.out q hq); rcases h1 with h1 | h1; exact h2.2 h1; have := HOB.out.size; omega⟩) (by have h1 := HLE2.out; have h2 := HB2.out; omega) (by have h1 := HLE2.out; have h2 := HLL'.out; simp only [List.length_append] at h2 ⊢; omega)
          have HREC := Lib.hid hrec; have HB5 := Lib.hid hb5; clear hrec hb5 hv5 h5
          go_upto_region 19 with (fail)
          refine wp_region_lit ?_
          refine wpList_plain rfl fun J hJ => ?_; go_simp; refine hJ _ _ ?_; clear hJ J
          refine wpList_load_mid rfl 35 (.tmp 6) rfl wr.heap.size 0 (by rfl) [.int .u8 k', .int .i64 n', .string ⟨s'.toArray⟩, .slice ak' lk' ck', .slice av' lv' cv'] _ HB5.out Try.underlying35 rfl (by kernel_rfl) ?_
          go_wp2_with fail
          refine HREC.out.mono ?_
          rintro e w6 ⟨rfl, h6⟩
          have h7 := HBK2.out _ _ h6
          have H7 : Hid (WS F1 b wb (l ++ encU k ++ encU vs.length ++ encVs false ks (vs.take (i + 1))) w6) := Lib.hid (by rw [encVs_snoc false ks vs i hlt]; rw [if_neg (by decide), List.nil_append]; simp only [List.append_assoc] at h7 ⊢; exact h7)
          clear h6 h7 d0 d1 d2 d3 d4
          go_wp2_with fail
          go_roundw
          case rel => exact ⟨i + 1, by simp [go_sem], by omega, H7⟩
          case measure => simp [intOf]; omega
        · have hke : i = vs.length := by omega
          subst hke
          have t1 : decide ((vs.length : Int) < (vs.length : Int)) = false := by simp
          have h9 := HW.out
          rw [List.take_length] at h9
          have H9 := Lib.hid h9; clear h9
          go_wp2_with fail
          go_ret
          exact ⟨rfl, HBACK.out _ _ (by have := H9.out; simp only [List.append_assoc] at this ⊢; exact this)⟩
    · have n1 : ((k : Int) == 1) = false := by simp; omega
      have n2 : ((k : Int) == 2) = false := by simp; omega
      have n3 : ((k : Int) == 3) = false := by simp; omega
      have n4 : ((k : Int) == 4) = false := by simp; omega
      have n5 : ((k : Int) == 5) = false := by simp; omega
      have n6 : ((k : Int) == 6) = true := by simp; omega
      have n7 : ((k : Int) == 7) = false := by simp; omega
      have n8 : ((k : Int) == 8) = false := by simp; omega
      have hr : (if k = 1 ∨ k = 3 then encU (zig n) else if k = 2 ∨ k = 4 ∨ k = 7 ∨ k = 8 then encT s else if k = 5 ∨ k = 6 then encU vs.length ++ encVs (decide (k = 6)) ks vs else []) = encU vs.length ++ encVs true ks vs := by rw [if_neg (by omega), if_neg (by omega), if_pos (by omega), show decide (k = 6) = true from by simp; omega]
      have hle := HLE.out; have hll := HLL.out
      rw [hr] at hle hll ⊢
      have HLE' := Lib.hid hle; have HLL' := Lib.hid hll; clear hle hll hr HLE HLL
      have HKK := Lib.hid hkk; clear hkk
      go_enter Try.func37, Try.ntmps37
      go_wp2_with fail
      refine HU.out.mono ?_
      rintro e w2 ⟨rfl, h2⟩
      obtain ⟨c0, c1, c2, c3, c4⟩ := box_cells (HKEEP.out _ _ (HWB.out ▸ h2))
      have H2 := Lib.hid h2; clear h2
      have hel := encU_len10 (n := k) (by omega)
      have hvl : vs.length ≤ 9223372036854775807 := by omega
      have hvl0 : (0 : Int) ≤ (vs.length : Int) := by omega
      have hll' := HLL'.out; have hle' := HLE'.out
      rw [List.length_append] at hll' hle'
      have hb1 : l.length + 10 + 10 + (encVs true ks vs).length ≤ 100000000000 := by omega
      have hb2 : (encVs true ks vs).length ≤ 1000000000 := by omega
      have HB1 := Lib.hid hb1; have HB2 := Lib.hid hb2; clear hb1 hb2 hll' hle'
      have hel2 := encU_len10 (n := vs.length) (by omega)
      go_wp2_with fail
      refine (wUint_s vs.length F1 b _ (l ++ encU k) _ H2.out (by omega) (by rw [List.length_append]; omega)).mono ?_
      rintro e w3 ⟨rfl, h3⟩
      clear c0 c1 c2 c3 c4
      obtain ⟨c0, c1, c2, c3, c4⟩ := box_cells (HKEEP.out _ _ (HWB.out ▸ h3))
      have H3 : Hid (WS F1 b wb (l ++ encU k ++ encU vs.length ++ encVs true ks (vs.take 0)) w3) := Lib.hid (by simp only [List.take_zero, encVs, List.append_nil]; exact HWB.out ▸ h3)
      clear h3
      go_wp2_with fail
      go_loopw [42] (fun v wr => ∃ i : Nat, v = .int .i64 (i : Int) ∧ i ≤ vs.length ∧ Hid (WS F1 b wb (l ++ encU k ++ encU vs.length ++ encVs true ks (vs.take i)) wr)) (fun v _ => vs.length - (intOf v).toNat)
      case atStart => exact ⟨0, by simp, by omega, H3⟩
      case round =>
        obtain ⟨i, rfl, hi, HW⟩ := hrel
        clear c0 c1 c2 c3 c4
        by_cases hlt : i < vs.length
        · have t1 : decide ((i : Int) < (vs.length : Int)) = true := by simpa using hlt
          have hi0 : (0 : Int) ≤ (i : Int) := by omega
          have hi1 : (i : Int) < (vs.length : Int) := by omega
          obtain ⟨bv, offv, hav, hGv, hbv, hvals⟩ := HV.out (by omega)
          subst hav
          obtain ⟨cs, hcl, hcr, hcv'⟩ := valsAt_get hvals i hlt
          obtain ⟨k', n', s', ak', lk', ck', av', lv', cv', rfl⟩ := valAt_form hcv'
          have oww : Only F1 w wr := (HOB.out.mono (T := F1) (fun _ _ h => h.elim)).trans HW.out.only
          have hcr2 := range_only hcr hbv oww (HGF.out bv hGv).2
          have o4 : Only (fun _ => False) wr (wr.alloc (.cells #[.int .u8 k', .int .i64 n', .string ⟨s'.toArray⟩, .slice ak' lk' ck', .slice av' lv' cv'] 35)) := (Only.refl _ wr).alloc _
          have hnb := heap_new wr (.cells #[.int .u8 k', .int .i64 n', .string ⟨s'.toArray⟩, .slice ak' lk' ck', .slice av' lv' cv'] 35)
          obtain ⟨F2, hs2, hF2, hback2⟩ := HW.out.rebase o4
          have hbx4 := HKEEP.out _ _ (HW.out.still o4)
          obtain ⟨c0, c1, c2, c3, c4⟩ := box_cells (HKEEP.out _ _ HW.out)
          obtain ⟨d0, d1, d2, d3, d4⟩ := box_cells hbx4
          have hwsz : w.heap.size ≤ wr.heap.size := oww.size
          have hbsz : w.heap.size < wr.heap.size := (Array.getElem?_eq_some_iff.1 (HKEEP.out _ _ HW.out)).1
          have hle2 := encVs_le true ks vs i hlt
          have HLE2 := Lib.hid hle2; have HF2 := Lib.hid hF2; have HBK2 := Lib.hid hback2; have HS2 := Lib.hid hs2; have HCR2 := Lib.hid hcr2; have HCV := Lib.hid hcv'; have OWW := Lib.hid oww; have O4 := Lib.hid o4; have HNB := Lib.hid hnb
          clear hle2 hF2 hback2 hs2 hcr2 hcr hcv' oww o4 hnb hbx4 hvals hcl
          have hz := zero_V
          go_upto_region 16 with (fail)
          refine wp_region_lit ?_
          iterate 2 (refine wpList_plain rfl fun J hJ => ?_; go_simp; refine hJ _ _ ?_; clear hJ J)
          refine wpList_load_mid rfl 35 (.tmp 45) rfl bv (offv + i * 5) (by rfl) [.int .u8 k', .int .i64 n', .string ⟨s'.toArray⟩, .slice ak' lk' ck', .slice av' lv' cv'] _ HCR2.out Try.underlying35 rfl (by kernel_rfl) ?_
          go_upto_region 17 with (fail)
          clear c0 c1 c2 c3 c4 hz
          generalize hw4 : wr.alloc (.cells #[.int .u8 k', .int .i64 n', .string ⟨s'.toArray⟩, .slice ak' lk' ck', .slice av' lv' cv'] 35) = w4 at *
          have HW4 := Lib.hid hw4; clear hw4
          have hkl : ks.length = vs.length := HGOOD.out.1 HKK.out
          obtain ⟨bk, offk, hak, hGk, hbk, hkr⟩ := HK.out (by omega)
          subst hak
          have hki : i < ks.length := by omega
          clear hkl
          have hkc : w4.cell? ⟨bk, offk + i, none⟩ = some (.string ⟨(ks[i]).toArray⟩) := by
            have := range_only hkr hbk (OWW.out.trans' O4.out (fun _ _ h => h.elim)) (HGF.out bk hGk).2 i (strV ks[i]) (by simp [hki])
            exact this
          have hik1 : (i : Int) < (ks.length : Int) := by omega
          have hkd : ks.getD i [] = ks[i] := by rw [List.getD_eq_getElem?_getD, List.getElem?_eq_getElem hki]; rfl
          have HKD := Lib.hid hkd; clear hkd hkr
          have hten : (encT ks[i]).length ≤ 1000000000 := by have h1 := HLE2.out; have h2 := HB2.out; rw [if_pos rfl, HKD.out] at h1; omega
          have HTEN := Lib.hid hten; clear hten
          have hle3 : (encVs true ks (vs.take i)).length + ((encT ks[i]).length + (encV vs[i]).length) ≤ (encVs true ks vs).length := by have h1 := HLE2.out; rw [if_pos rfl, HKD.out] at h1; exact h1
          have HLE3 := Lib.hid hle3; clear hle3
          go_wp2_with fail
          refine (wText_s ks[i] F2 b w4 _ w4 HS2.out (by have := HTEN.out; unfold encT at this; rw [List.length_append] at this; omega) (by have h1 := HLE2.out; have h2 := HB1.out; simp only [List.length_append]; omega)).mono ?_
          rintro e w5 ⟨rfl, h5⟩
          have hb5 : w5.rangeAt wr.heap.size 0 [.int .u8 k', .int .i64 n', .string ⟨s'.toArray⟩, .slice ak' lk' ck', .slice av' lv' cv'] := range_of_block (by rw [h5.only.block _ (Array.getElem?_eq_some_iff.1 HNB.out).1 (fun hf => by have := (HF2.out _ hf).1; omega)]; exact HNB.out)
          have hv5 : ValAt w5 G vs[i] [.int .u8 k', .int .i64 n', .string ⟨s'.toArray⟩, .slice ak' lk' ck', .slice av' lv' cv'] := valAt_only (S := fun q => F1 q ∨ F2 q) (((OWW.out.mono (fun q _ h => .inl h)).trans' O4.out (fun _ _ h => h.elim)).trans' h5.only (fun q _ h => .inr h)) (fun q hq h => h.elim (HGF.out q hq).2 (fun h => by have h1 := (HF2.out q h).2; have h2 := (HGF.out q hq); rcases h1 with h1 | h1; exact h2.2 h1; have := HOB.out.size; omega)) vs[i] _ HCV.out
          have hrec := IH.out vs[i] (by have h1 := sizeOf_get (k := k) (n := n) (s := s) (ks := ks) i hlt; have h2 := HT.out; omega) F2 G b w4 (l ++ encU k ++ encU vs.length ++ encVs true ks (vs.take i) ++ encT ks[i]) w5 _ h5 hv5 (goodVs_get HGOOD.out.2 i hlt) (fun q hq => ⟨by have h1 := (HGF.out q hq).1; have h2 := O4.out.size; omega, fun h => by have h1 := (HF2.out q h).2; have h2 := (HGF.out q hq); rcases h1 with h1 | h1; exact h2.2 h1; have := HOB.out.size; omega⟩) (by have h1 := HLE3.out; have h2 := HB2.out; omega) (by have h1 := HLE3.out; have h2 := HLL'.out; simp only [List.length_append] at h2 ⊢; omega)
          have HREC := Lib.hid hrec; have HB5 := Lib.hid hb5; clear hrec hb5 hv5 h5
          go_upto_region 19 with (fail)
          refine wp_region_lit ?_
          refine wpList_plain rfl fun J hJ => ?_; go_simp; refine hJ _ _ ?_; clear hJ J
          refine wpList_load_mid rfl 35 (.tmp 6) rfl wr.heap.size 0 (by rfl) [.int .u8 k', .int .i64 n', .string ⟨s'.toArray⟩, .slice ak' lk' ck', .slice av' lv' cv'] _ HB5.out Try.underlying35 rfl (by kernel_rfl) ?_
          go_wp2_with fail
          refine HREC.out.mono ?_
          rintro e w6 ⟨rfl, h6⟩
          have h7 := HBK2.out _ _ h6
          have H7 : Hid (WS F1 b wb (l ++ encU k ++ encU vs.length ++ encVs true ks (vs.take (i + 1))) w6) := Lib.hid (by rw [encVs_snoc true ks vs i hlt]; rw [if_pos rfl, HKD.out]; simp only [List.append_assoc] at h7 ⊢; exact h7)
          clear h6 h7 d0 d1 d2 d3 d4
          go_wp2_with fail
          go_roundw
          case rel => exact ⟨i + 1, by simp [go_sem], by omega, H7⟩
          case measure => simp [intOf]; omega
        · have hke : i = vs.length := by omega
          subst hke
          have t1 : decide ((vs.length : Int) < (vs.length : Int)) = false := by simp
          have h9 := HW.out
          rw [List.take_length] at h9
          have H9 := Lib.hid h9; clear h9
          go_wp2_with fail
          go_ret
          exact ⟨rfl, HBACK.out _ _ (by have := H9.out; simp only [List.append_assoc] at this ⊢; exact this)⟩
    · have n1 : ((k : Int) == 1) = false := by simp; omega
      have n2 : ((k : Int) == 2) = false := by simp; omega
      have n3 : ((k : Int) == 3) = false := by simp; omega
      have n4 : ((k : Int) == 4) = false := by simp; omega
      have n5 : ((k : Int) == 5) = false := by simp; omega
      have n6 : ((k : Int) == 6) = false := by simp; omega
      have n7 : ((k : Int) == 7) = false := by simp; omega
      have n8 : ((k : Int) == 8) = false := by simp; omega
      have hr : (if k = 1 ∨ k = 3 then encU (zig n) else if k = 2 ∨ k = 4 ∨ k = 7 ∨ k = 8 then encT s else if k = 5 ∨ k = 6 then encU vs.length ++ encVs (decide (k = 6)) ks vs else []) = [] := by rw [if_neg (by omega), if_neg (by omega), if_neg (by omega)]
      have hle := HLE.out; have hll := HLL.out
      rw [hr] at hle hll ⊢
      have HLE' := Lib.hid hle; have HLL' := Lib.hid hll; clear hle hll hr HLE HLL
      have HKK := Lib.hid hkk; clear hkk
      go_enter Try.func37, Try.ntmps37
      go_wp2_with fail
      refine HU.out.mono ?_
      rintro e w2 ⟨rfl, h2⟩
      obtain ⟨c0, c1, c2, c3, c4⟩ := box_cells (HKEEP.out _ _ (HWB.out ▸ h2))
      have H2 := Lib.hid h2; clear h2
      have hel := encU_len10 (n := k) (by omega)
      go_wp2_with fail
      go_ret
      exact ⟨rfl, by rw [List.append_nil]; exact HBACK.out _ _ (HWB.out ▸ H2.out)⟩
end Go.Proofs.Ytoojnpafcdaflaa
