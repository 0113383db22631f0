/- The reader's Value. -/
import Derived.Test.YtoojnpafcdaflaaVrdA
import Derived.Test.YtoojnpafcdaflaaVrdB
import Derived.Test.YtoojnpafcdaflaaVrdC
import Derived.Test.YtoojnpafcdaflaaVrdD
namespace Go.Proofs.Ytoojnpafcdaflaa
open Go Go.RowKit
set_option linter.unusedVariables false
set_option linter.unusedSimpArgs false
set_option maxRecDepth 100000

theorem rvalue_any : ∀ (f d : Nat), d + f = 24 → ∀ (b : Nat) (l : List UInt8) (β : Bool) (w : World), ReaderAt w b l β → Calls Try.prog 64 #[.pointer (some ⟨b, 0, none⟩), .int .i64 d] w (RVb w b f l β) := by
  intro f
  induction f with
  | zero =>
    intro d hd b l β w h
    have key := decU_cases β l
    rcases key with hc | ⟨hb, k, r, hc, hk⟩
    · exact rv_0 0 d hd b l β w h hc
    · have hk' : k = 0 ∨ k = 1 ∨ k = 2 ∨ k = 3 ∨ k = 4 ∨ k = 5 ∨ k = 6 ∨ k = 7 ∨ k = 8 := by omega
      rcases hk' with rfl | rfl | rfl | rfl | rfl | rfl | rfl | rfl | rfl
      · exact rv_0 0 d hd b l β w h (.inr (.inr ⟨r, hc⟩))
      · exact rv_1 0 d hd b l β w h hb ⟨r, hc⟩
      · exact rv_2 0 d hd b l β w h hb ⟨r, hc⟩
      · exact rv_3 0 d hd b l β w h hb ⟨r, hc⟩
      · exact rv_4 0 d hd b l β w h hb ⟨r, hc⟩
      · exact rv_5 0 d hd (fun f' h => by omega) b l β w h hb ⟨r, hc⟩
      · exact rv_6 0 d hd (fun f' h => by omega) b l β w h hb ⟨r, hc⟩
      · exact rv_7 0 d hd b l β w h hb ⟨r, hc⟩
      · exact rv_8 0 d hd b l β w h hb ⟨r, hc⟩
  | succ f ih =>
    intro d hd b l β w h
    have key := decU_cases β l
    have ih' : ∀ f', f + 1 = f' + 1 → ∀ (b : Nat) (l : List UInt8) (β : Bool) (w : World), ReaderAt w b l β → Calls Try.prog 64 #[.pointer (some ⟨b, 0, none⟩), .int .i64 ((d + 1 : Nat) : Int)] w (RVb w b f' l β) := fun f' hf => by
      obtain rfl : f = f' := by omega
      exact ih (d + 1) (by omega)
    rcases key with hc | ⟨hb, k, r, hc, hk⟩
    · exact rv_0 (f + 1) d hd b l β w h hc
    · have hk' : k = 0 ∨ k = 1 ∨ k = 2 ∨ k = 3 ∨ k = 4 ∨ k = 5 ∨ k = 6 ∨ k = 7 ∨ k = 8 := by omega
      rcases hk' with rfl | rfl | rfl | rfl | rfl | rfl | rfl | rfl | rfl
      · exact rv_0 (f + 1) d hd b l β w h (.inr (.inr ⟨r, hc⟩))
      · exact rv_1 (f + 1) d hd b l β w h hb ⟨r, hc⟩
      · exact rv_2 (f + 1) d hd b l β w h hb ⟨r, hc⟩
      · exact rv_3 (f + 1) d hd b l β w h hb ⟨r, hc⟩
      · exact rv_4 (f + 1) d hd b l β w h hb ⟨r, hc⟩
      · exact rv_5 (f + 1) d hd ih' b l β w h hb ⟨r, hc⟩
      · exact rv_6 (f + 1) d hd ih' b l β w h hb ⟨r, hc⟩
      · exact rv_7 (f + 1) d hd b l β w h hb ⟨r, hc⟩
      · exact rv_8 (f + 1) d hd b l β w h hb ⟨r, hc⟩

def zeroT : VT := .mk 0 0 [] [] []
def RVal (w : World) (b : Nat) (l : List UInt8) (β : Bool) (e : Ending) (w' : World) : Prop :=
  ∃ (t : VT) (cs : List Value) (r : List UInt8) (β' : Bool), e = .returned (.agg cs.toArray) ∧ ValAt w' (fun q => w.heap.size ≤ q) t cs ∧ ReaderAt w' b r β' ∧ Only (fun k => k = b) w w' ∧ (β' = false → β = false ∧ decV 24 l = some (t, r)) ∧ (β' = true → (β = true ∨ decV 24 l = none) ∧ t = zeroT)
set_option maxHeartbeats 4000000 in
theorem rval_any (b : Nat) (l : List UInt8) (β : Bool) (w : World) (h : ReaderAt w b l β) : Calls Try.prog 39 #[.pointer (some ⟨b, 0, none⟩)] w (RVal w b l β) := by
  have hz := zero_V
  have hbl := h.lt
  have oa := (Only.refl (fun _ => False) w).alloc (.cells #[.int .u8 0, .int .i64 0, .string ByteArray.empty, .slice none 0 0, .slice none 0 0] 35)
  have hR0 := heap_new w (.cells #[.int .u8 0, .int .i64 0, .string ByteArray.empty, .slice none 0 0, .slice none 0 0] 35)
  have hv : Calls Try.prog 64 #[.pointer (some ⟨b, 0, none⟩), .int .i64 0] (w.alloc (.cells #[.int .u8 0, .int .i64 0, .string ByteArray.empty, .slice none 0 0, .slice none 0 0] 35)) _ := rvalue_any 24 0 rfl b l β _ (h.still oa)
  have HV := Lib.hid hv; have OA := Lib.hid oa; have HR0 := Lib.hid hR0; clear hv oa hR0 h
  go_enter Try.func39, Try.ntmps39
  go_wp2_with fail
  refine HV.out.mono ?_
  rintro e w2 ⟨t, cs, r, β', rfl, hv, h2, o2, k1, k2⟩
  obtain ⟨k', n', s', ak', lk', ck', av', lv', cv', rfl⟩ := valAt_form hv
  have hs2 : w.heap.size < w2.heap.size := by have := o2.size; simp at this; omega
  have ob := (Only.refl (fun _ => False) w2).alloc (.cells #[.int .u8 k', .int .i64 n', .string ⟨s'.toArray⟩, .slice ak' lk' ck', .slice av' lv' cv'] 35)
  have hres : (w2.alloc (.cells #[.int .u8 k', .int .i64 n', .string ⟨s'.toArray⟩, .slice ak' lk' ck', .slice av' lv' cv'] 35)).heap[w.heap.size]? = some (.cells #[.int .u8 0, .int .i64 0, .string ByteArray.empty, .slice none 0 0, .slice none 0 0] 35 (0, 0)) := heap_old (by rw [o2.block _ (by simp) (by omega)]; exact HR0.out) _
  have hbox := heap_new w2 (.cells #[.int .u8 k', .int .i64 n', .string ⟨s'.toArray⟩, .slice ak' lk' ck', .slice av' lv' cv'] 35)
  have h3 := h2.still ob
  have hv3 := valAt_only ob (fun _ _ h => h) _ _ hv
  have hO : Only (fun k => k = b) w (w2.alloc (.cells #[.int .u8 k', .int .i64 n', .string ⟨s'.toArray⟩, .slice ak' lk' ck', .slice av' lv' cv'] 35)) := ((OA.out.mono (T := fun k => k = b) (fun _ _ h => h.elim)).trans o2).alloc _
  have HRES := Lib.hid hres; have HBOX := Lib.hid hbox; have H3 := Lib.hid h3; have HV3 := Lib.hid hv3; have HO := Lib.hid hO; have K1 := Lib.hid k1; have K2 := Lib.hid k2
  clear hres hbox h3 hv3 hO k1 k2 h2 hv o2 ob
  go_wp2_with fail
  refine (bad_any b r β' _ H3.out).mono ?_
  rintro e w3 ⟨rfl, rfl⟩
  cases β' with
  | true =>
    have h1c : ∀ v ∈ ([.int .u8 0, .int .i64 0, .string ByteArray.empty, .slice none 0 0, .slice none 0 0] : List Value), v.oneCell' = true := by intro v hv; simp only [List.mem_cons, List.not_mem_nil, or_false] at hv; rcases hv with rfl | rfl | rfl | rfl | rfl <;> rfl
    have H1C := Lib.hid h1c; clear h1c
    go_wp2_with ((refine wpList_store_box (o := ⟨none, _, _, _, _, _⟩) rfl 35 (.tmp 2) (.tmp 8) (by rfl) w.heap.size [.int .u8 0, .int .i64 0, .string ByteArray.empty, .slice none 0 0, .slice none 0 0] [.int .u8 0, .int .i64 0, .string ByteArray.empty, .slice none 0 0, .slice none 0 0] (by rfl) (by rfl) HRES.out rfl (by kernel_rfl) H1C.out ?_; intro w6 h6 o6))
    obtain ⟨z0, z1, z2, z3, z4⟩ := box_cells h6
    have hfin : RVal w b l β (.returned (.agg #[.int .u8 0, .int .i64 0, .string ByteArray.empty, .slice none 0 0, .slice none 0 0])) w6 := ⟨zeroT, [.int .u8 0, .int .i64 0, .string ByteArray.empty, .slice none 0 0, .slice none 0 0], r, true, rfl, valAt_leaf (s := []) (by decide) (by decide) (by decide) (by simp), H3.out.past o6 (fun k hk => by omega), HO.out.trans' o6 (fun k hk e => by omega), (fun h => by cases h), fun _ => ⟨K2.out (by first | rfl | trivial), rfl⟩⟩
    exact bodyPost_ret (v := .agg #[.int .u8 0, .int .i64 0, .string ByteArray.empty, .slice none 0 0, .slice none 0 0]) (by simp [results, Try.results39, go_sem, z0, z1, z2, z3, z4]) rfl hfin
  | false =>
    obtain ⟨c0, c1, c2, c3, c4⟩ := box_cells HBOX.out
    have h1c := valAt_one HV3.out
    have H1C := Lib.hid h1c; clear h1c hz
    go_wp2_with ((refine wpList_store_box (o := ⟨none, _, _, _, _, _⟩) rfl 35 (.tmp 2) (.tmp 9) (by rfl) w.heap.size [.int .u8 0, .int .i64 0, .string ByteArray.empty, .slice none 0 0, .slice none 0 0] [.int .u8 k', .int .i64 n', .string ⟨s'.toArray⟩, .slice ak' lk' ck', .slice av' lv' cv'] (by rfl) (by rfl) HRES.out rfl (by kernel_rfl) H1C.out ?_; intro w6 h6 o6))
    obtain ⟨z0, z1, z2, z3, z4⟩ := box_cells h6
    have hv6 := valAt_only o6 (fun q hq hk => by have h1 : (w.alloc (.cells #[.int .u8 0, .int .i64 0, .string ByteArray.empty, .slice none 0 0, .slice none 0 0] 35)).heap.size ≤ q := hq; simp at h1; omega) _ _ HV3.out
    have hfin : RVal w b l β (.returned (.agg #[.int .u8 k', .int .i64 n', .string ⟨s'.toArray⟩, .slice ak' lk' ck', .slice av' lv' cv'])) w6 := ⟨t, [.int .u8 k', .int .i64 n', .string ⟨s'.toArray⟩, .slice ak' lk' ck', .slice av' lv' cv'], r, false, rfl, valAt_weaken (fun q _ h => by have h1 : (w.alloc (.cells #[.int .u8 0, .int .i64 0, .string ByteArray.empty, .slice none 0 0, .slice none 0 0] 35)).heap.size ≤ q := h; simp at h1; omega) _ _ hv6, H3.out.past o6 (fun k hk => by omega), HO.out.trans' o6 (fun k hk e => by omega), (fun _ => K1.out (by first | rfl | trivial)), (fun h => by cases h)⟩
    exact bodyPost_ret (v := .agg #[.int .u8 k', .int .i64 n', .string ⟨s'.toArray⟩, .slice ak' lk' ck', .slice av' lv' cv']) (by simp [results, Try.results39, go_sem, z0, z1, z2, z3, z4]) rfl hfin
end Go.Proofs.Ytoojnpafcdaflaa
