/- The reader's value, of the kinds 2, 4, 7, 8. -/
import Derived.Test.YtoojnpafcdaflaaVrp
import Derived.Test.YtoojnpafcdaflaaReg
namespace Go.Proofs.Ytoojnpafcdaflaa
open Go Go.RowKit
set_option linter.unusedVariables false
set_option linter.unusedSimpArgs false
set_option maxRecDepth 100000

set_option maxHeartbeats 8000000 in
theorem rv_2 (f d : Nat) (hdf : d + f = 24) (b : Nat) (l : List UInt8) (β : Bool) (w : World) (h : ReaderAt w b l β) (hc0 : β = false) (hc : ∃ r, decU 8 l = some (2, r)) : Calls Try.prog 64 #[.pointer (some ⟨b, 0, none⟩), .int .i64 d] w (RVb w b f l β) := by
  have hz := zero_V
  have hbl := h.lt
  have oa := (Only.refl (fun _ => False) w).alloc (.cells #[.int .u8 0, .int .i64 0, .string ByteArray.empty, .slice none 0 0, .slice none 0 0] 35)
  have hu : Calls Try.prog 32 #[.pointer (some ⟨b, 0, none⟩), .int .u64 8] (w.alloc (.cells #[.int .u8 0, .int .i64 0, .string ByteArray.empty, .slice none 0 0, .slice none 0 0] 35)) _ := ruint_b b 8 l β _ (h.still oa) (by decide)
  have hR0 := heap_new w (.cells #[.int .u8 0, .int .i64 0, .string ByteArray.empty, .slice none 0 0, .slice none 0 0] 35)
  have HU := Lib.hid hu; have HC := Lib.hid hc; have OA := Lib.hid oa; have HR0 := Lib.hid hR0; clear hu hc oa hR0 h
  have HC0 := Lib.hid hc0; clear hc0
  have hd0 : (0 : Int) ≤ (d : Int) := by omega
  have hd1 : (d : Int) ≤ 24 := by omega
  go_enter Try.func64, Try.ntmps64
  go_wp2_with fail
  refine HU.out.mono ?_
  rintro e w2 ⟨x, r1, β1, he, hx8, h2, o2, g1, g2⟩
  have hxc : x = 2 := by
    obtain ⟨r, hr⟩ := HC.out
    cases hβ : β1 with
    | true => rcases (g2 hβ).2 with h | h; (rw [HC0.out] at h; cases h); (rw [hr] at h; cases h)
    | false => rw [(g1 hβ).2] at hr; injection hr with hr; injection hr with hr _
  subst hxc
  have he : e = .returned (.int .u64 2) := he
  subst he
  have hs2 : w.heap.size < w2.heap.size := by have := o2.size; simp at this; omega
  have hbox : (w2.alloc (.cells #[.int .u8 2, .int .i64 0, .string ByteArray.empty, .slice none 0 0, .slice none 0 0] 35)).heap[w2.heap.size]? = some (.cells #[.int .u8 2, .int .i64 0, .string ByteArray.empty, .slice none 0 0, .slice none 0 0] 35 (0, 0)) := heap_new w2 _
  have hres : (w2.alloc (.cells #[.int .u8 2, .int .i64 0, .string ByteArray.empty, .slice none 0 0, .slice none 0 0] 35)).heap[w.heap.size]? = some (.cells #[.int .u8 0, .int .i64 0, .string ByteArray.empty, .slice none 0 0, .slice none 0 0] 35 (0, 0)) := heap_old (by rw [o2.block _ (by simp) (by omega)]; exact HR0.out) _
  have h3 := h2.still ((Only.refl (fun _ => False) w2).alloc (.cells #[.int .u8 2, .int .i64 0, .string ByteArray.empty, .slice none 0 0, .slice none 0 0] 35))
  have hO : Only (fun k => k = b) w (w2.alloc (.cells #[.int .u8 2, .int .i64 0, .string ByteArray.empty, .slice none 0 0, .slice none 0 0] 35)) := ((OA.out.mono (T := fun k => k = b) (fun _ _ h => h.elim)).trans o2).alloc _
  have HBOX := Lib.hid hbox; have HRES := Lib.hid hres; have H3 := Lib.hid h3; have HO := Lib.hid hO; have G1 := Lib.hid g1; have G2 := Lib.hid g2; clear hbox hres h3 hO g1 g2 h2 o2 hx8
  cases f with
  | zero =>
    have t24 : decide ((24 : Int) ≤ (d : Int)) = true := by simp; omega
    go_wp2_with fail
    refine (fail_any b r1 β1 _ H3.out).mono ?_
    rintro e w3 ⟨rfl, h3, o3⟩
    have hk := Kinded.zero 2 l r1 β
    have hB3 := (o3.block _ (Array.getElem?_eq_some_iff.1 HBOX.out).1 (by omega)).trans HBOX.out
    have hR3 := (o3.block _ (Array.getElem?_eq_some_iff.1 HRES.out).1 (by omega)).trans HRES.out
    have hO3 := HO.out.trans o3
    obtain ⟨β2, hβ2⟩ : ∃ β2, β2 = true := ⟨_, rfl⟩
    rw [← hβ2] at hk h3
    go_upto_region 4 with (fail)
    clear o3
    have HK := Lib.hid hk; have HB3 := Lib.hid hB3; have HR3 := Lib.hid hR3; have HO3 := Lib.hid hO3; have H3R := Lib.hid h3; have HS2 := Lib.hid hs2; clear hk hB3 hR3 hO3 h3 hβ2 G1 G2
    obtain ⟨c0, c1, c2, c3, c4⟩ := box_cells HB3.out
    have ht : Calls Try.prog 34 #[.pointer (some ⟨b, 0, none⟩), .int .i64 200] w3 _ := rtext_b b 200 r1 β2 w3 H3R.out (by decide)
    have HTX := Lib.hid ht; clear ht
    go_wp2_with fail
    refine HTX.out.mono ?_
    rintro e w4 ⟨x, r2, β3, rfl, hx, h4, o4, k1, k2⟩
    have hB4 := (o4.block _ (Array.getElem?_eq_some_iff.1 HB3.out).1 (by have := HS2.out; omega)).trans HB3.out
    have hR4 := (o4.block _ (Array.getElem?_eq_some_iff.1 HR3.out).1 (by omega)).trans HR3.out
    have hfz : ∀ o, w4.frozen? ⟨w2.heap.size, o, none⟩ = false := fun o => by simp [World.frozen?, hB4]
    have hlt4 : w2.heap.size < w4.heap.size := (Array.getElem?_eq_some_iff.1 hB4).1
    clear c0 c1 c2 c3 c4
    obtain ⟨c0, c1, c2, c3, c4⟩ := box_cells hB4
    have hB5 := heap_set (o := 2) hB4 (.string ⟨x.toArray⟩)
    have hB5 : (w4.setCell ⟨w2.heap.size, 2, none⟩ (.string ⟨x.toArray⟩)).heap[w2.heap.size]? = some (.cells #[.int .u8 2, .int .i64 0, .string ⟨x.toArray⟩, .slice none 0 0, .slice none 0 0] 35 (0, 0)) := by simpa using hB5
    have hR5 := heap_set_ne (a := ⟨w2.heap.size, 2, none⟩) hR4 (by have := HS2.out; show w.heap.size ≠ w2.heap.size; omega) (.string ⟨x.toArray⟩)
    have o5 := (Only.refl (fun k => k = w2.heap.size) w4).setCell (p := ⟨w2.heap.size, 2, none⟩) (.inl rfl) (.string ⟨x.toArray⟩)
    have h5 := h4.past o5 (fun k hk => by have := HS2.out; omega)
    have hO5 := (HO3.out.trans o4).trans' o5 (fun k hk e => by have := HS2.out; omega)
    have K1 := Lib.hid k1; have K2 := Lib.hid k2; have HB5 := Lib.hid hB5; have HR5 := Lib.hid hR5; have H5 := Lib.hid h5; have HO5 := Lib.hid hO5; clear k1 k2 hB5 hR5 h5 hO5 o5 o4 h4 hB4 hR4
    go_upto_region 24 with (fail)
    clear c0 c1 c2 c3 c4 hfz hlt4
    generalize w4.setCell ⟨w2.heap.size, 2, none⟩ (.string ⟨x.toArray⟩) = w5 at *
    obtain ⟨c0, c1, c2, c3, c4⟩ := box_cells HB5.out
    have h1c : ∀ v ∈ ([.int .u8 2, .int .i64 0, .string ⟨x.toArray⟩, .slice none 0 0, .slice none 0 0] : List Value), v.oneCell' = true := by intro v hv; simp only [List.mem_cons, List.not_mem_nil, or_false] at hv; rcases hv with rfl | rfl | rfl | rfl | rfl <;> rfl
    have H1C := Lib.hid h1c; clear h1c hz
    go_wp2_with ((refine wpList_store_box (o := ⟨none, _, _, _, _, _⟩) rfl 35 (.tmp 4) (.tmp 78) (by rfl) w.heap.size [.int .u8 0, .int .i64 0, .string ByteArray.empty, .slice none 0 0, .slice none 0 0] [.int .u8 2, .int .i64 0, .string ⟨x.toArray⟩, .slice none 0 0, .slice none 0 0] (by rfl) (by rfl) (HR5.out) rfl (by kernel_rfl) H1C.out ?_; intro w6 h6 o6))
    obtain ⟨z0, z1, z2, z3, z4⟩ := box_cells h6
    have hfin : RVb w b 0 l β (.returned (.agg #[.int .u8 2, .int .i64 0, .string ⟨x.toArray⟩, .slice none 0 0, .slice none 0 0])) w6 := ⟨(.mk 2 0 x [] []), [.int .u8 2, .int .i64 0, .string ⟨x.toArray⟩, .slice none 0 0, .slice none 0 0], r2, β3, rfl, valAt_leaf (by decide) (by decide) (by decide) (by omega), (H5.out).past o6 (fun k hk => by omega), (HO5.out).trans' o6 (fun k hk e => by omega), (HK.out.text (by decide) K1.out K2.out).1, (HK.out.text (by decide) K1.out K2.out).2⟩
    exact bodyPost_ret (v := .agg #[.int .u8 2, .int .i64 0, .string ⟨x.toArray⟩, .slice none 0 0, .slice none 0 0]) (by simp [results, Try.results64, go_sem, z0, z1, z2, z3, z4]) rfl hfin
  | succ f =>
    have t24 : decide ((24 : Int) ≤ (d : Int)) = false := by simp; omega
    go_upto_region 4 with (fail)
    have hk : Kinded (f + 1) 2 l r1 β β1 := Kinded.of G1.out G2.out
    have hB3 := HBOX.out; have hR3 := HRES.out; have h3 := H3.out; have hO3 := HO.out
    clear HBOX HRES H3 HO
    generalize w2.alloc (.cells #[.int .u8 2, .int .i64 0, .string ByteArray.empty, .slice none 0 0, .slice none 0 0] 35) = w3 at *
    obtain ⟨β2, hβ2⟩ : ∃ β2, β2 = β1 := ⟨_, rfl⟩
    rw [← hβ2] at hk h3
    have HK := Lib.hid hk; have HB3 := Lib.hid hB3; have HR3 := Lib.hid hR3; have HO3 := Lib.hid hO3; have H3R := Lib.hid h3; have HS2 := Lib.hid hs2; clear hk hB3 hR3 hO3 h3 hβ2 G1 G2
    obtain ⟨c0, c1, c2, c3, c4⟩ := box_cells HB3.out
    have ht : Calls Try.prog 34 #[.pointer (some ⟨b, 0, none⟩), .int .i64 200] w3 _ := rtext_b b 200 r1 β2 w3 H3R.out (by decide)
    have HTX := Lib.hid ht; clear ht
    go_wp2_with fail
    refine HTX.out.mono ?_
    rintro e w4 ⟨x, r2, β3, rfl, hx, h4, o4, k1, k2⟩
    have hB4 := (o4.block _ (Array.getElem?_eq_some_iff.1 HB3.out).1 (by have := HS2.out; omega)).trans HB3.out
    have hR4 := (o4.block _ (Array.getElem?_eq_some_iff.1 HR3.out).1 (by omega)).trans HR3.out
    have hfz : ∀ o, w4.frozen? ⟨w2.heap.size, o, none⟩ = false := fun o => by simp [World.frozen?, hB4]
    have hlt4 : w2.heap.size < w4.heap.size := (Array.getElem?_eq_some_iff.1 hB4).1
    clear c0 c1 c2 c3 c4
    obtain ⟨c0, c1, c2, c3, c4⟩ := box_cells hB4
    have hB5 := heap_set (o := 2) hB4 (.string ⟨x.toArray⟩)
    have hB5 : (w4.setCell ⟨w2.heap.size, 2, none⟩ (.string ⟨x.toArray⟩)).heap[w2.heap.size]? = some (.cells #[.int .u8 2, .int .i64 0, .string ⟨x.toArray⟩, .slice none 0 0, .slice none 0 0] 35 (0, 0)) := by simpa using hB5
    have hR5 := heap_set_ne (a := ⟨w2.heap.size, 2, none⟩) hR4 (by have := HS2.out; show w.heap.size ≠ w2.heap.size; omega) (.string ⟨x.toArray⟩)
    have o5 := (Only.refl (fun k => k = w2.heap.size) w4).setCell (p := ⟨w2.heap.size, 2, none⟩) (.inl rfl) (.string ⟨x.toArray⟩)
    have h5 := h4.past o5 (fun k hk => by have := HS2.out; omega)
    have hO5 := (HO3.out.trans o4).trans' o5 (fun k hk e => by have := HS2.out; omega)
    have K1 := Lib.hid k1; have K2 := Lib.hid k2; have HB5 := Lib.hid hB5; have HR5 := Lib.hid hR5; have H5 := Lib.hid h5; have HO5 := Lib.hid hO5; clear k1 k2 hB5 hR5 h5 hO5 o5 o4 h4 hB4 hR4
    go_upto_region 24 with (fail)
    clear c0 c1 c2 c3 c4 hfz hlt4
    generalize w4.setCell ⟨w2.heap.size, 2, none⟩ (.string ⟨x.toArray⟩) = w5 at *
    obtain ⟨c0, c1, c2, c3, c4⟩ := box_cells HB5.out
    have h1c : ∀ v ∈ ([.int .u8 2, .int .i64 0, .string ⟨x.toArray⟩, .slice none 0 0, .slice none 0 0] : List Value), v.oneCell' = true := by intro v hv; simp only [List.mem_cons, List.not_mem_nil, or_false] at hv; rcases hv with rfl | rfl | rfl | rfl | rfl <;> rfl
    have H1C := Lib.hid h1c; clear h1c hz
    go_wp2_with ((refine wpList_store_box (o := ⟨none, _, _, _, _, _⟩) rfl 35 (.tmp 4) (.tmp 78) (by rfl) w.heap.size [.int .u8 0, .int .i64 0, .string ByteArray.empty, .slice none 0 0, .slice none 0 0] [.int .u8 2, .int .i64 0, .string ⟨x.toArray⟩, .slice none 0 0, .slice none 0 0] (by rfl) (by rfl) (HR5.out) rfl (by kernel_rfl) H1C.out ?_; intro w6 h6 o6))
    obtain ⟨z0, z1, z2, z3, z4⟩ := box_cells h6
    have hfin : RVb w b (f + 1) l β (.returned (.agg #[.int .u8 2, .int .i64 0, .string ⟨x.toArray⟩, .slice none 0 0, .slice none 0 0])) w6 := ⟨(.mk 2 0 x [] []), [.int .u8 2, .int .i64 0, .string ⟨x.toArray⟩, .slice none 0 0, .slice none 0 0], r2, β3, rfl, valAt_leaf (by decide) (by decide) (by decide) (by omega), (H5.out).past o6 (fun k hk => by omega), (HO5.out).trans' o6 (fun k hk e => by omega), (HK.out.text (by decide) K1.out K2.out).1, (HK.out.text (by decide) K1.out K2.out).2⟩
    exact bodyPost_ret (v := .agg #[.int .u8 2, .int .i64 0, .string ⟨x.toArray⟩, .slice none 0 0, .slice none 0 0]) (by simp [results, Try.results64, go_sem, z0, z1, z2, z3, z4]) rfl hfin
set_option maxHeartbeats 8000000 in
theorem rv_4 (f d : Nat) (hdf : d + f = 24) (b : Nat) (l : List UInt8) (β : Bool) (w : World) (h : ReaderAt w b l β) (hc0 : β = false) (hc : ∃ r, decU 8 l = some (4, r)) : Calls Try.prog 64 #[.pointer (some ⟨b, 0, none⟩), .int .i64 d] w (RVb w b f l β) := by
  have hz := zero_V
  have hbl := h.lt
  have oa := (Only.refl (fun _ => False) w).alloc (.cells #[.int .u8 0, .int .i64 0, .string ByteArray.empty, .slice none 0 0, .slice none 0 0] 35)
  have hu : Calls Try.prog 32 #[.pointer (some ⟨b, 0, none⟩), .int .u64 8] (w.alloc (.cells #[.int .u8 0, .int .i64 0, .string ByteArray.empty, .slice none 0 0, .slice none 0 0] 35)) _ := ruint_b b 8 l β _ (h.still oa) (by decide)
  have hR0 := heap_new w (.cells #[.int .u8 0, .int .i64 0, .string ByteArray.empty, .slice none 0 0, .slice none 0 0] 35)
  have HU := Lib.hid hu; have HC := Lib.hid hc; have OA := Lib.hid oa; have HR0 := Lib.hid hR0; clear hu hc oa hR0 h
  have HC0 := Lib.hid hc0; clear hc0
  have hd0 : (0 : Int) ≤ (d : Int) := by omega
  have hd1 : (d : Int) ≤ 24 := by omega
  go_enter Try.func64, Try.ntmps64
  go_wp2_with fail
  refine HU.out.mono ?_
  rintro e w2 ⟨x, r1, β1, he, hx8, h2, o2, g1, g2⟩
  have hxc : x = 4 := by
    obtain ⟨r, hr⟩ := HC.out
    cases hβ : β1 with
    | true => rcases (g2 hβ).2 with h | h; (rw [HC0.out] at h; cases h); (rw [hr] at h; cases h)
    | false => rw [(g1 hβ).2] at hr; injection hr with hr; injection hr with hr _
  subst hxc
  have he : e = .returned (.int .u64 4) := he
  subst he
  have hs2 : w.heap.size < w2.heap.size := by have := o2.size; simp at this; omega
  have hbox : (w2.alloc (.cells #[.int .u8 4, .int .i64 0, .string ByteArray.empty, .slice none 0 0, .slice none 0 0] 35)).heap[w2.heap.size]? = some (.cells #[.int .u8 4, .int .i64 0, .string ByteArray.empty, .slice none 0 0, .slice none 0 0] 35 (0, 0)) := heap_new w2 _
  have hres : (w2.alloc (.cells #[.int .u8 4, .int .i64 0, .string ByteArray.empty, .slice none 0 0, .slice none 0 0] 35)).heap[w.heap.size]? = some (.cells #[.int .u8 0, .int .i64 0, .string ByteArray.empty, .slice none 0 0, .slice none 0 0] 35 (0, 0)) := heap_old (by rw [o2.block _ (by simp) (by omega)]; exact HR0.out) _
  have h3 := h2.still ((Only.refl (fun _ => False) w2).alloc (.cells #[.int .u8 4, .int .i64 0, .string ByteArray.empty, .slice none 0 0, .slice none 0 0] 35))
  have hO : Only (fun k => k = b) w (w2.alloc (.cells #[.int .u8 4, .int .i64 0, .string ByteArray.empty, .slice none 0 0, .slice none 0 0] 35)) := ((OA.out.mono (T := fun k => k = b) (fun _ _ h => h.elim)).trans o2).alloc _
  have HBOX := Lib.hid hbox; have HRES := Lib.hid hres; have H3 := Lib.hid h3; have HO := Lib.hid hO; have G1 := Lib.hid g1; have G2 := Lib.hid g2; clear hbox hres h3 hO g1 g2 h2 o2 hx8
  cases f with
  | zero =>
    have t24 : decide ((24 : Int) ≤ (d : Int)) = true := by simp; omega
    go_wp2_with fail
    refine (fail_any b r1 β1 _ H3.out).mono ?_
    rintro e w3 ⟨rfl, h3, o3⟩
    have hk := Kinded.zero 4 l r1 β
    have hB3 := (o3.block _ (Array.getElem?_eq_some_iff.1 HBOX.out).1 (by omega)).trans HBOX.out
    have hR3 := (o3.block _ (Array.getElem?_eq_some_iff.1 HRES.out).1 (by omega)).trans HRES.out
    have hO3 := HO.out.trans o3
    obtain ⟨β2, hβ2⟩ : ∃ β2, β2 = true := ⟨_, rfl⟩
    rw [← hβ2] at hk h3
    go_upto_region 4 with (fail)
    clear o3
    have HK := Lib.hid hk; have HB3 := Lib.hid hB3; have HR3 := Lib.hid hR3; have HO3 := Lib.hid hO3; have H3R := Lib.hid h3; have HS2 := Lib.hid hs2; clear hk hB3 hR3 hO3 h3 hβ2 G1 G2
    obtain ⟨c0, c1, c2, c3, c4⟩ := box_cells HB3.out
    have ht : Calls Try.prog 34 #[.pointer (some ⟨b, 0, none⟩), .int .i64 200] w3 _ := rtext_b b 200 r1 β2 w3 H3R.out (by decide)
    have HTX := Lib.hid ht; clear ht
    go_wp2_with fail
    refine HTX.out.mono ?_
    rintro e w4 ⟨x, r2, β3, rfl, hx, h4, o4, k1, k2⟩
    have hB4 := (o4.block _ (Array.getElem?_eq_some_iff.1 HB3.out).1 (by have := HS2.out; omega)).trans HB3.out
    have hR4 := (o4.block _ (Array.getElem?_eq_some_iff.1 HR3.out).1 (by omega)).trans HR3.out
    have hfz : ∀ o, w4.frozen? ⟨w2.heap.size, o, none⟩ = false := fun o => by simp [World.frozen?, hB4]
    have hlt4 : w2.heap.size < w4.heap.size := (Array.getElem?_eq_some_iff.1 hB4).1
    clear c0 c1 c2 c3 c4
    obtain ⟨c0, c1, c2, c3, c4⟩ := box_cells hB4
    have hB5 := heap_set (o := 2) hB4 (.string ⟨x.toArray⟩)
    have hB5 : (w4.setCell ⟨w2.heap.size, 2, none⟩ (.string ⟨x.toArray⟩)).heap[w2.heap.size]? = some (.cells #[.int .u8 4, .int .i64 0, .string ⟨x.toArray⟩, .slice none 0 0, .slice none 0 0] 35 (0, 0)) := by simpa using hB5
    have hR5 := heap_set_ne (a := ⟨w2.heap.size, 2, none⟩) hR4 (by have := HS2.out; show w.heap.size ≠ w2.heap.size; omega) (.string ⟨x.toArray⟩)
    have o5 := (Only.refl (fun k => k = w2.heap.size) w4).setCell (p := ⟨w2.heap.size, 2, none⟩) (.inl rfl) (.string ⟨x.toArray⟩)
    have h5 := h4.past o5 (fun k hk => by have := HS2.out; omega)
    have hO5 := (HO3.out.trans o4).trans' o5 (fun k hk e => by have := HS2.out; omega)
    have K1 := Lib.hid k1; have K2 := Lib.hid k2; have HB5 := Lib.hid hB5; have HR5 := Lib.hid hR5; have H5 := Lib.hid h5; have HO5 := Lib.hid hO5; clear k1 k2 hB5 hR5 h5 hO5 o5 o4 h4 hB4 hR4
    go_upto_region 24 with (fail)
    clear c0 c1 c2 c3 c4 hfz hlt4
    generalize w4.setCell ⟨w2.heap.size, 2, none⟩ (.string ⟨x.toArray⟩) = w5 at *
    obtain ⟨c0, c1, c2, c3, c4⟩ := box_cells HB5.out
    have h1c : ∀ v ∈ ([.int .u8 4, .int .i64 0, .string ⟨x.toArray⟩, .slice none 0 0, .slice none 0 0] : List Value), v.oneCell' = true := by intro v hv; simp only [List.mem_cons, List.not_mem_nil, or_false] at hv; rcases hv with rfl | rfl | rfl | rfl | rfl <;> rfl
    have H1C := Lib.hid h1c; clear h1c hz
    go_wp2_with ((refine wpList_store_box (o := ⟨none, _, _, _, _, _⟩) rfl 35 (.tmp 4) (.tmp 78) (by rfl) w.heap.size [.int .u8 0, .int .i64 0, .string ByteArray.empty, .slice none 0 0, .slice none 0 0] [.int .u8 4, .int .i64 0, .string ⟨x.toArray⟩, .slice none 0 0, .slice none 0 0] (by rfl) (by rfl) (HR5.out) rfl (by kernel_rfl) H1C.out ?_; intro w6 h6 o6))
    obtain ⟨z0, z1, z2, z3, z4⟩ := box_cells h6
    have hfin : RVb w b 0 l β (.returned (.agg #[.int .u8 4, .int .i64 0, .string ⟨x.toArray⟩, .slice none 0 0, .slice none 0 0])) w6 := ⟨(.mk 4 0 x [] []), [.int .u8 4, .int .i64 0, .string ⟨x.toArray⟩, .slice none 0 0, .slice none 0 0], r2, β3, rfl, valAt_leaf (by decide) (by decide) (by decide) (by omega), (H5.out).past o6 (fun k hk => by omega), (HO5.out).trans' o6 (fun k hk e => by omega), (HK.out.text (by decide) K1.out K2.out).1, (HK.out.text (by decide) K1.out K2.out).2⟩
    exact bodyPost_ret (v := .agg #[.int .u8 4, .int .i64 0, .string ⟨x.toArray⟩, .slice none 0 0, .slice none 0 0]) (by simp [results, Try.results64, go_sem, z0, z1, z2, z3, z4]) rfl hfin
  | succ f =>
    have t24 : decide ((24 : Int) ≤ (d : Int)) = false := by simp; omega
    go_upto_region 4 with (fail)
    have hk : Kinded (f + 1) 4 l r1 β β1 := Kinded.of G1.out G2.out
    have hB3 := HBOX.out; have hR3 := HRES.out; have h3 := H3.out; have hO3 := HO.out
    clear HBOX HRES H3 HO
    generalize w2.alloc (.cells #[.int .u8 4, .int .i64 0, .string ByteArray.empty, .slice none 0 0, .slice none 0 0] 35) = w3 at *
    obtain ⟨β2, hβ2⟩ : ∃ β2, β2 = β1 := ⟨_, rfl⟩
    rw [← hβ2] at hk h3
    have HK := Lib.hid hk; have HB3 := Lib.hid hB3; have HR3 := Lib.hid hR3; have HO3 := Lib.hid hO3; have H3R := Lib.hid h3; have HS2 := Lib.hid hs2; clear hk hB3 hR3 hO3 h3 hβ2 G1 G2
    obtain ⟨c0, c1, c2, c3, c4⟩ := box_cells HB3.out
    have ht : Calls Try.prog 34 #[.pointer (some ⟨b, 0, none⟩), .int .i64 200] w3 _ := rtext_b b 200 r1 β2 w3 H3R.out (by decide)
    have HTX := Lib.hid ht; clear ht
    go_wp2_with fail
    refine HTX.out.mono ?_
    rintro e w4 ⟨x, r2, β3, rfl, hx, h4, o4, k1, k2⟩
    have hB4 := (o4.block _ (Array.getElem?_eq_some_iff.1 HB3.out).1 (by have := HS2.out; omega)).trans HB3.out
    have hR4 := (o4.block _ (Array.getElem?_eq_some_iff.1 HR3.out).1 (by omega)).trans HR3.out
    have hfz : ∀ o, w4.frozen? ⟨w2.heap.size, o, none⟩ = false := fun o => by simp [World.frozen?, hB4]
    have hlt4 : w2.heap.size < w4.heap.size := (Array.getElem?_eq_some_iff.1 hB4).1
    clear c0 c1 c2 c3 c4
    obtain ⟨c0, c1, c2, c3, c4⟩ := box_cells hB4
    have hB5 := heap_set (o := 2) hB4 (.string ⟨x.toArray⟩)
    have hB5 : (w4.setCell ⟨w2.heap.size, 2, none⟩ (.string ⟨x.toArray⟩)).heap[w2.heap.size]? = some (.cells #[.int .u8 4, .int .i64 0, .string ⟨x.toArray⟩, .slice none 0 0, .slice none 0 0] 35 (0, 0)) := by simpa using hB5
    have hR5 := heap_set_ne (a := ⟨w2.heap.size, 2, none⟩) hR4 (by have := HS2.out; show w.heap.size ≠ w2.heap.size; omega) (.string ⟨x.toArray⟩)
    have o5 := (Only.refl (fun k => k = w2.heap.size) w4).setCell (p := ⟨w2.heap.size, 2, none⟩) (.inl rfl) (.string ⟨x.toArray⟩)
    have h5 := h4.past o5 (fun k hk => by have := HS2.out; omega)
    have hO5 := (HO3.out.trans o4).trans' o5 (fun k hk e => by have := HS2.out; omega)
    have K1 := Lib.hid k1; have K2 := Lib.hid k2; have HB5 := Lib.hid hB5; have HR5 := Lib.hid hR5; have H5 := Lib.hid h5; have HO5 := Lib.hid hO5; clear k1 k2 hB5 hR5 h5 hO5 o5 o4 h4 hB4 hR4
    go_upto_region 24 with (fail)
    clear c0 c1 c2 c3 c4 hfz hlt4
    generalize w4.setCell ⟨w2.heap.size, 2, none⟩ (.string ⟨x.toArray⟩) = w5 at *
    obtain ⟨c0, c1, c2, c3, c4⟩ := box_cells HB5.out
    have h1c : ∀ v ∈ ([.int .u8 4, .int .i64 0, .string ⟨x.toArray⟩, .slice none 0 0, .slice none 0 0] : List Value), v.oneCell' = true := by intro v hv; simp only [List.mem_cons, List.not_mem_nil, or_false] at hv; rcases hv with rfl | rfl | rfl | rfl | rfl <;> rfl
    have H1C := Lib.hid h1c; clear h1c hz
    go_wp2_with ((refine wpList_store_box (o := ⟨none, _, _, _, _, _⟩) rfl 35 (.tmp 4) (.tmp 78) (by rfl) w.heap.size [.int .u8 0, .int .i64 0, .string ByteArray.empty, .slice none 0 0, .slice none 0 0] [.int .u8 4, .int .i64 0, .string ⟨x.toArray⟩, .slice none 0 0, .slice none 0 0] (by rfl) (by rfl) (HR5.out) rfl (by kernel_rfl) H1C.out ?_; intro w6 h6 o6))
    obtain ⟨z0, z1, z2, z3, z4⟩ := box_cells h6
    have hfin : RVb w b (f + 1) l β (.returned (.agg #[.int .u8 4, .int .i64 0, .string ⟨x.toArray⟩, .slice none 0 0, .slice none 0 0])) w6 := ⟨(.mk 4 0 x [] []), [.int .u8 4, .int .i64 0, .string ⟨x.toArray⟩, .slice none 0 0, .slice none 0 0], r2, β3, rfl, valAt_leaf (by decide) (by decide) (by decide) (by omega), (H5.out).past o6 (fun k hk => by omega), (HO5.out).trans' o6 (fun k hk e => by omega), (HK.out.text (by decide) K1.out K2.out).1, (HK.out.text (by decide) K1.out K2.out).2⟩
    exact bodyPost_ret (v := .agg #[.int .u8 4, .int .i64 0, .string ⟨x.toArray⟩, .slice none 0 0, .slice none 0 0]) (by simp [results, Try.results64, go_sem, z0, z1, z2, z3, z4]) rfl hfin
set_option maxHeartbeats 8000000 in
theorem rv_7 (f d : Nat) (hdf : d + f = 24) (b : Nat) (l : List UInt8) (β : Bool) (w : World) (h : ReaderAt w b l β) (hc0 : β = false) (hc : ∃ r, decU 8 l = some (7, r)) : Calls Try.prog 64 #[.pointer (some ⟨b, 0, none⟩), .int .i64 d] w (RVb w b f l β) := by
  have hz := zero_V
  have hbl := h.lt
  have oa := (Only.refl (fun _ => False) w).alloc (.cells #[.int .u8 0, .int .i64 0, .string ByteArray.empty, .slice none 0 0, .slice none 0 0] 35)
  have hu : Calls Try.prog 32 #[.pointer (some ⟨b, 0, none⟩), .int .u64 8] (w.alloc (.cells #[.int .u8 0, .int .i64 0, .string ByteArray.empty, .slice none 0 0, .slice none 0 0] 35)) _ := ruint_b b 8 l β _ (h.still oa) (by decide)
  have hR0 := heap_new w (.cells #[.int .u8 0, .int .i64 0, .string ByteArray.empty, .slice none 0 0, .slice none 0 0] 35)
  have HU := Lib.hid hu; have HC := Lib.hid hc; have OA := Lib.hid oa; have HR0 := Lib.hid hR0; clear hu hc oa hR0 h
  have HC0 := Lib.hid hc0; clear hc0
  have hd0 : (0 : Int) ≤ (d : Int) := by omega
  have hd1 : (d : Int) ≤ 24 := by omega
  go_enter Try.func64, Try.ntmps64
  go_wp2_with fail
  refine HU.out.mono ?_
  rintro e w2 ⟨x, r1, β1, he, hx8, h2, o2, g1, g2⟩
  have hxc : x = 7 := by
    obtain ⟨r, hr⟩ := HC.out
    cases hβ : β1 with
    | true => rcases (g2 hβ).2 with h | h; (rw [HC0.out] at h; cases h); (rw [hr] at h; cases h)
    | false => rw [(g1 hβ).2] at hr; injection hr with hr; injection hr with hr _
  subst hxc
  have he : e = .returned (.int .u64 7) := he
  subst he
  have hs2 : w.heap.size < w2.heap.size := by have := o2.size; simp at this; omega
  have hbox : (w2.alloc (.cells #[.int .u8 7, .int .i64 0, .string ByteArray.empty, .slice none 0 0, .slice none 0 0] 35)).heap[w2.heap.size]? = some (.cells #[.int .u8 7, .int .i64 0, .string ByteArray.empty, .slice none 0 0, .slice none 0 0] 35 (0, 0)) := heap_new w2 _
  have hres : (w2.alloc (.cells #[.int .u8 7, .int .i64 0, .string ByteArray.empty, .slice none 0 0, .slice none 0 0] 35)).heap[w.heap.size]? = some (.cells #[.int .u8 0, .int .i64 0, .string ByteArray.empty, .slice none 0 0, .slice none 0 0] 35 (0, 0)) := heap_old (by rw [o2.block _ (by simp) (by omega)]; exact HR0.out) _
  have h3 := h2.still ((Only.refl (fun _ => False) w2).alloc (.cells #[.int .u8 7, .int .i64 0, .string ByteArray.empty, .slice none 0 0, .slice none 0 0] 35))
  have hO : Only (fun k => k = b) w (w2.alloc (.cells #[.int .u8 7, .int .i64 0, .string ByteArray.empty, .slice none 0 0, .slice none 0 0] 35)) := ((OA.out.mono (T := fun k => k = b) (fun _ _ h => h.elim)).trans o2).alloc _
  have HBOX := Lib.hid hbox; have HRES := Lib.hid hres; have H3 := Lib.hid h3; have HO := Lib.hid hO; have G1 := Lib.hid g1; have G2 := Lib.hid g2; clear hbox hres h3 hO g1 g2 h2 o2 hx8
  cases f with
  | zero =>
    have t24 : decide ((24 : Int) ≤ (d : Int)) = true := by simp; omega
    go_wp2_with fail
    refine (fail_any b r1 β1 _ H3.out).mono ?_
    rintro e w3 ⟨rfl, h3, o3⟩
    have hk := Kinded.zero 7 l r1 β
    have hB3 := (o3.block _ (Array.getElem?_eq_some_iff.1 HBOX.out).1 (by omega)).trans HBOX.out
    have hR3 := (o3.block _ (Array.getElem?_eq_some_iff.1 HRES.out).1 (by omega)).trans HRES.out
    have hO3 := HO.out.trans o3
    obtain ⟨β2, hβ2⟩ : ∃ β2, β2 = true := ⟨_, rfl⟩
    rw [← hβ2] at hk h3
    go_upto_region 4 with (fail)
    clear o3
    have HK := Lib.hid hk; have HB3 := Lib.hid hB3; have HR3 := Lib.hid hR3; have HO3 := Lib.hid hO3; have H3R := Lib.hid h3; have HS2 := Lib.hid hs2; clear hk hB3 hR3 hO3 h3 hβ2 G1 G2
    obtain ⟨c0, c1, c2, c3, c4⟩ := box_cells HB3.out
    have ht : Calls Try.prog 34 #[.pointer (some ⟨b, 0, none⟩), .int .i64 200] w3 _ := rtext_b b 200 r1 β2 w3 H3R.out (by decide)
    have HTX := Lib.hid ht; clear ht
    go_wp2_with fail
    refine HTX.out.mono ?_
    rintro e w4 ⟨x, r2, β3, rfl, hx, h4, o4, k1, k2⟩
    have hB4 := (o4.block _ (Array.getElem?_eq_some_iff.1 HB3.out).1 (by have := HS2.out; omega)).trans HB3.out
    have hR4 := (o4.block _ (Array.getElem?_eq_some_iff.1 HR3.out).1 (by omega)).trans HR3.out
    have hfz : ∀ o, w4.frozen? ⟨w2.heap.size, o, none⟩ = false := fun o => by simp [World.frozen?, hB4]
    have hlt4 : w2.heap.size < w4.heap.size := (Array.getElem?_eq_some_iff.1 hB4).1
    clear c0 c1 c2 c3 c4
    obtain ⟨c0, c1, c2, c3, c4⟩ := box_cells hB4
    have hB5 := heap_set (o := 2) hB4 (.string ⟨x.toArray⟩)
    have hB5 : (w4.setCell ⟨w2.heap.size, 2, none⟩ (.string ⟨x.toArray⟩)).heap[w2.heap.size]? = some (.cells #[.int .u8 7, .int .i64 0, .string ⟨x.toArray⟩, .slice none 0 0, .slice none 0 0] 35 (0, 0)) := by simpa using hB5
    have hR5 := heap_set_ne (a := ⟨w2.heap.size, 2, none⟩) hR4 (by have := HS2.out; show w.heap.size ≠ w2.heap.size; omega) (.string ⟨x.toArray⟩)
    have o5 := (Only.refl (fun k => k = w2.heap.size) w4).setCell (p := ⟨w2.heap.size, 2, none⟩) (.inl rfl) (.string ⟨x.toArray⟩)
    have h5 := h4.past o5 (fun k hk => by have := HS2.out; omega)
    have hO5 := (HO3.out.trans o4).trans' o5 (fun k hk e => by have := HS2.out; omega)
    have K1 := Lib.hid k1; have K2 := Lib.hid k2; have HB5 := Lib.hid hB5; have HR5 := Lib.hid hR5; have H5 := Lib.hid h5; have HO5 := Lib.hid hO5; clear k1 k2 hB5 hR5 h5 hO5 o5 o4 h4 hB4 hR4
    go_upto_region 24 with (fail)
    clear c0 c1 c2 c3 c4 hfz hlt4
    generalize w4.setCell ⟨w2.heap.size, 2, none⟩ (.string ⟨x.toArray⟩) = w5 at *
    obtain ⟨c0, c1, c2, c3, c4⟩ := box_cells HB5.out
    have h1c : ∀ v ∈ ([.int .u8 7, .int .i64 0, .string ⟨x.toArray⟩, .slice none 0 0, .slice none 0 0] : List Value), v.oneCell' = true := by intro v hv; simp only [List.mem_cons, List.not_mem_nil, or_false] at hv; rcases hv with rfl | rfl | rfl | rfl | rfl <;> rfl
    have H1C := Lib.hid h1c; clear h1c hz
    go_wp2_with ((refine wpList_store_box (o := ⟨none, _, _, _, _, _⟩) rfl 35 (.tmp 4) (.tmp 78) (by rfl) w.heap.size [.int .u8 0, .int .i64 0, .string ByteArray.empty, .slice none 0 0, .slice none 0 0] [.int .u8 7, .int .i64 0, .string ⟨x.toArray⟩, .slice none 0 0, .slice none 0 0] (by rfl) (by rfl) (HR5.out) rfl (by kernel_rfl) H1C.out ?_; intro w6 h6 o6))
    obtain ⟨z0, z1, z2, z3, z4⟩ := box_cells h6
    have hfin : RVb w b 0 l β (.returned (.agg #[.int .u8 7, .int .i64 0, .string ⟨x.toArray⟩, .slice none 0 0, .slice none 0 0])) w6 := ⟨(.mk 7 0 x [] []), [.int .u8 7, .int .i64 0, .string ⟨x.toArray⟩, .slice none 0 0, .slice none 0 0], r2, β3, rfl, valAt_leaf (by decide) (by decide) (by decide) (by omega), (H5.out).past o6 (fun k hk => by omega), (HO5.out).trans' o6 (fun k hk e => by omega), (HK.out.text (by decide) K1.out K2.out).1, (HK.out.text (by decide) K1.out K2.out).2⟩
    exact bodyPost_ret (v := .agg #[.int .u8 7, .int .i64 0, .string ⟨x.toArray⟩, .slice none 0 0, .slice none 0 0]) (by simp [results, Try.results64, go_sem, z0, z1, z2, z3, z4]) rfl hfin
  | succ f =>
    have t24 : decide ((24 : Int) ≤ (d : Int)) = false := by simp; omega
    go_upto_region 4 with (fail)
    have hk : Kinded (f + 1) 7 l r1 β β1 := Kinded.of G1.out G2.out
    have hB3 := HBOX.out; have hR3 := HRES.out; have h3 := H3.out; have hO3 := HO.out
    clear HBOX HRES H3 HO
    generalize w2.alloc (.cells #[.int .u8 7, .int .i64 0, .string ByteArray.empty, .slice none 0 0, .slice none 0 0] 35) = w3 at *
    obtain ⟨β2, hβ2⟩ : ∃ β2, β2 = β1 := ⟨_, rfl⟩
    rw [← hβ2] at hk h3
    have HK := Lib.hid hk; have HB3 := Lib.hid hB3; have HR3 := Lib.hid hR3; have HO3 := Lib.hid hO3; have H3R := Lib.hid h3; have HS2 := Lib.hid hs2; clear hk hB3 hR3 hO3 h3 hβ2 G1 G2
    obtain ⟨c0, c1, c2, c3, c4⟩ := box_cells HB3.out
    have ht : Calls Try.prog 34 #[.pointer (some ⟨b, 0, none⟩), .int .i64 200] w3 _ := rtext_b b 200 r1 β2 w3 H3R.out (by decide)
    have HTX := Lib.hid ht; clear ht
    go_wp2_with fail
    refine HTX.out.mono ?_
    rintro e w4 ⟨x, r2, β3, rfl, hx, h4, o4, k1, k2⟩
    have hB4 := (o4.block _ (Array.getElem?_eq_some_iff.1 HB3.out).1 (by have := HS2.out; omega)).trans HB3.out
    have hR4 := (o4.block _ (Array.getElem?_eq_some_iff.1 HR3.out).1 (by omega)).trans HR3.out
    have hfz : ∀ o, w4.frozen? ⟨w2.heap.size, o, none⟩ = false := fun o => by simp [World.frozen?, hB4]
    have hlt4 : w2.heap.size < w4.heap.size := (Array.getElem?_eq_some_iff.1 hB4).1
    clear c0 c1 c2 c3 c4
    obtain ⟨c0, c1, c2, c3, c4⟩ := box_cells hB4
    have hB5 := heap_set (o := 2) hB4 (.string ⟨x.toArray⟩)
    have hB5 : (w4.setCell ⟨w2.heap.size, 2, none⟩ (.string ⟨x.toArray⟩)).heap[w2.heap.size]? = some (.cells #[.int .u8 7, .int .i64 0, .string ⟨x.toArray⟩, .slice none 0 0, .slice none 0 0] 35 (0, 0)) := by simpa using hB5
    have hR5 := heap_set_ne (a := ⟨w2.heap.size, 2, none⟩) hR4 (by have := HS2.out; show w.heap.size ≠ w2.heap.size; omega) (.string ⟨x.toArray⟩)
    have o5 := (Only.refl (fun k => k = w2.heap.size) w4).setCell (p := ⟨w2.heap.size, 2, none⟩) (.inl rfl) (.string ⟨x.toArray⟩)
    have h5 := h4.past o5 (fun k hk => by have := HS2.out; omega)
    have hO5 := (HO3.out.trans o4).trans' o5 (fun k hk e => by have := HS2.out; omega)
    have K1 := Lib.hid k1; have K2 := Lib.hid k2; have HB5 := Lib.hid hB5; have HR5 := Lib.hid hR5; have H5 := Lib.hid h5; have HO5 := Lib.hid hO5; clear k1 k2 hB5 hR5 h5 hO5 o5 o4 h4 hB4 hR4
    go_upto_region 24 with (fail)
    clear c0 c1 c2 c3 c4 hfz hlt4
    generalize w4.setCell ⟨w2.heap.size, 2, none⟩ (.string ⟨x.toArray⟩) = w5 at *
    obtain ⟨c0, c1, c2, c3, c4⟩ := box_cells HB5.out
    have h1c : ∀ v ∈ ([.int .u8 7, .int .i64 0, .string ⟨x.toArray⟩, .slice none 0 0, .slice none 0 0] : List Value), v.oneCell' = true := by intro v hv; simp only [List.mem_cons, List.not_mem_nil, or_false] at hv; rcases hv with rfl | rfl | rfl | rfl | rfl <;> rfl
    have H1C := Lib.hid h1c; clear h1c hz
    go_wp2_with ((refine wpList_store_box (o := ⟨none, _, _, _, _, _⟩) rfl 35 (.tmp 4) (.tmp 78) (by rfl) w.heap.size [.int .u8 0, .int .i64 0, .string ByteArray.empty, .slice none 0 0, .slice none 0 0] [.int .u8 7, .int .i64 0, .string ⟨x.toArray⟩, .slice none 0 0, .slice none 0 0] (by rfl) (by rfl) (HR5.out) rfl (by kernel_rfl) H1C.out ?_; intro w6 h6 o6))
    obtain ⟨z0, z1, z2, z3, z4⟩ := box_cells h6
    have hfin : RVb w b (f + 1) l β (.returned (.agg #[.int .u8 7, .int .i64 0, .string ⟨x.toArray⟩, .slice none 0 0, .slice none 0 0])) w6 := ⟨(.mk 7 0 x [] []), [.int .u8 7, .int .i64 0, .string ⟨x.toArray⟩, .slice none 0 0, .slice none 0 0], r2, β3, rfl, valAt_leaf (by decide) (by decide) (by decide) (by omega), (H5.out).past o6 (fun k hk => by omega), (HO5.out).trans' o6 (fun k hk e => by omega), (HK.out.text (by decide) K1.out K2.out).1, (HK.out.text (by decide) K1.out K2.out).2⟩
    exact bodyPost_ret (v := .agg #[.int .u8 7, .int .i64 0, .string ⟨x.toArray⟩, .slice none 0 0, .slice none 0 0]) (by simp [results, Try.results64, go_sem, z0, z1, z2, z3, z4]) rfl hfin
set_option maxHeartbeats 8000000 in
theorem rv_8 (f d : Nat) (hdf : d + f = 24) (b : Nat) (l : List UInt8) (β : Bool) (w : World) (h : ReaderAt w b l β) (hc0 : β = false) (hc : ∃ r, decU 8 l = some (8, r)) : Calls Try.prog 64 #[.pointer (some ⟨b, 0, none⟩), .int .i64 d] w (RVb w b f l β) := by
  have hz := zero_V
  have hbl := h.lt
  have oa := (Only.refl (fun _ => False) w).alloc (.cells #[.int .u8 0, .int .i64 0, .string ByteArray.empty, .slice none 0 0, .slice none 0 0] 35)
  have hu : Calls Try.prog 32 #[.pointer (some ⟨b, 0, none⟩), .int .u64 8] (w.alloc (.cells #[.int .u8 0, .int .i64 0, .string ByteArray.empty, .slice none 0 0, .slice none 0 0] 35)) _ := ruint_b b 8 l β _ (h.still oa) (by decide)
  have hR0 := heap_new w (.cells #[.int .u8 0, .int .i64 0, .string ByteArray.empty, .slice none 0 0, .slice none 0 0] 35)
  have HU := Lib.hid hu; have HC := Lib.hid hc; have OA := Lib.hid oa; have HR0 := Lib.hid hR0; clear hu hc oa hR0 h
  have HC0 := Lib.hid hc0; clear hc0
  have hd0 : (0 : Int) ≤ (d : Int) := by omega
  have hd1 : (d : Int) ≤ 24 := by omega
  go_enter Try.func64, Try.ntmps64
  go_wp2_with fail
  refine HU.out.mono ?_
  rintro e w2 ⟨x, r1, β1, he, hx8, h2, o2, g1, g2⟩
  have hxc : x = 8 := by
    obtain ⟨r, hr⟩ := HC.out
    cases hβ : β1 with
    | true => rcases (g2 hβ).2 with h | h; (rw [HC0.out] at h; cases h); (rw [hr] at h; cases h)
    | false => rw [(g1 hβ).2] at hr; injection hr with hr; injection hr with hr _
  subst hxc
  have he : e = .returned (.int .u64 8) := he
  subst he
  have hs2 : w.heap.size < w2.heap.size := by have := o2.size; simp at this; omega
  have hbox : (w2.alloc (.cells #[.int .u8 8, .int .i64 0, .string ByteArray.empty, .slice none 0 0, .slice none 0 0] 35)).heap[w2.heap.size]? = some (.cells #[.int .u8 8, .int .i64 0, .string ByteArray.empty, .slice none 0 0, .slice none 0 0] 35 (0, 0)) := heap_new w2 _
  have hres : (w2.alloc (.cells #[.int .u8 8, .int .i64 0, .string ByteArray.empty, .slice none 0 0, .slice none 0 0] 35)).heap[w.heap.size]? = some (.cells #[.int .u8 0, .int .i64 0, .string ByteArray.empty, .slice none 0 0, .slice none 0 0] 35 (0, 0)) := heap_old (by rw [o2.block _ (by simp) (by omega)]; exact HR0.out) _
  have h3 := h2.still ((Only.refl (fun _ => False) w2).alloc (.cells #[.int .u8 8, .int .i64 0, .string ByteArray.empty, .slice none 0 0, .slice none 0 0] 35))
  have hO : Only (fun k => k = b) w (w2.alloc (.cells #[.int .u8 8, .int .i64 0, .string ByteArray.empty, .slice none 0 0, .slice none 0 0] 35)) := ((OA.out.mono (T := fun k => k = b) (fun _ _ h => h.elim)).trans o2).alloc _
  have HBOX := Lib.hid hbox; have HRES := Lib.hid hres; have H3 := Lib.hid h3; have HO := Lib.hid hO; have G1 := Lib.hid g1; have G2 := Lib.hid g2; clear hbox hres h3 hO g1 g2 h2 o2 hx8
  cases f with
  | zero =>
    have t24 : decide ((24 : Int) ≤ (d : Int)) = true := by simp; omega
    go_wp2_with fail
    refine (fail_any b r1 β1 _ H3.out).mono ?_
    rintro e w3 ⟨rfl, h3, o3⟩
    have hk := Kinded.zero 8 l r1 β
    have hB3 := (o3.block _ (Array.getElem?_eq_some_iff.1 HBOX.out).1 (by omega)).trans HBOX.out
    have hR3 := (o3.block _ (Array.getElem?_eq_some_iff.1 HRES.out).1 (by omega)).trans HRES.out
    have hO3 := HO.out.trans o3
    obtain ⟨β2, hβ2⟩ : ∃ β2, β2 = true := ⟨_, rfl⟩
    rw [← hβ2] at hk h3
    go_upto_region 4 with (fail)
    clear o3
    have HK := Lib.hid hk; have HB3 := Lib.hid hB3; have HR3 := Lib.hid hR3; have HO3 := Lib.hid hO3; have H3R := Lib.hid h3; have HS2 := Lib.hid hs2; clear hk hB3 hR3 hO3 h3 hβ2 G1 G2
    obtain ⟨c0, c1, c2, c3, c4⟩ := box_cells HB3.out
    have ht : Calls Try.prog 34 #[.pointer (some ⟨b, 0, none⟩), .int .i64 200] w3 _ := rtext_b b 200 r1 β2 w3 H3R.out (by decide)
    have HTX := Lib.hid ht; clear ht
    go_wp2_with fail
    refine HTX.out.mono ?_
    rintro e w4 ⟨x, r2, β3, rfl, hx, h4, o4, k1, k2⟩
    have hB4 := (o4.block _ (Array.getElem?_eq_some_iff.1 HB3.out).1 (by have := HS2.out; omega)).trans HB3.out
    have hR4 := (o4.block _ (Array.getElem?_eq_some_iff.1 HR3.out).1 (by omega)).trans HR3.out
    have hfz : ∀ o, w4.frozen? ⟨w2.heap.size, o, none⟩ = false := fun o => by simp [World.frozen?, hB4]
    have hlt4 : w2.heap.size < w4.heap.size := (Array.getElem?_eq_some_iff.1 hB4).1
    clear c0 c1 c2 c3 c4
    obtain ⟨c0, c1, c2, c3, c4⟩ := box_cells hB4
    have hB5 := heap_set (o := 2) hB4 (.string ⟨x.toArray⟩)
    have hB5 : (w4.setCell ⟨w2.heap.size, 2, none⟩ (.string ⟨x.toArray⟩)).heap[w2.heap.size]? = some (.cells #[.int .u8 8, .int .i64 0, .string ⟨x.toArray⟩, .slice none 0 0, .slice none 0 0] 35 (0, 0)) := by simpa using hB5
    have hR5 := heap_set_ne (a := ⟨w2.heap.size, 2, none⟩) hR4 (by have := HS2.out; show w.heap.size ≠ w2.heap.size; omega) (.string ⟨x.toArray⟩)
    have o5 := (Only.refl (fun k => k = w2.heap.size) w4).setCell (p := ⟨w2.heap.size, 2, none⟩) (.inl rfl) (.string ⟨x.toArray⟩)
    have h5 := h4.past o5 (fun k hk => by have := HS2.out; omega)
    have hO5 := (HO3.out.trans o4).trans' o5 (fun k hk e => by have := HS2.out; omega)
    have K1 := Lib.hid k1; have K2 := Lib.hid k2; have HB5 := Lib.hid hB5; have HR5 := Lib.hid hR5; have H5 := Lib.hid h5; have HO5 := Lib.hid hO5; clear k1 k2 hB5 hR5 h5 hO5 o5 o4 h4 hB4 hR4
    go_upto_region 24 with (fail)
    clear c0 c1 c2 c3 c4 hfz hlt4
    generalize w4.setCell ⟨w2.heap.size, 2, none⟩ (.string ⟨x.toArray⟩) = w5 at *
    obtain ⟨c0, c1, c2, c3, c4⟩ := box_cells HB5.out
    have h1c : ∀ v ∈ ([.int .u8 8, .int .i64 0, .string ⟨x.toArray⟩, .slice none 0 0, .slice none 0 0] : List Value), v.oneCell' = true := by intro v hv; simp only [List.mem_cons, List.not_mem_nil, or_false] at hv; rcases hv with rfl | rfl | rfl | rfl | rfl <;> rfl
    have H1C := Lib.hid h1c; clear h1c hz
    go_wp2_with ((refine wpList_store_box (o := ⟨none, _, _, _, _, _⟩) rfl 35 (.tmp 4) (.tmp 78) (by rfl) w.heap.size [.int .u8 0, .int .i64 0, .string ByteArray.empty, .slice none 0 0, .slice none 0 0] [.int .u8 8, .int .i64 0, .string ⟨x.toArray⟩, .slice none 0 0, .slice none 0 0] (by rfl) (by rfl) (HR5.out) rfl (by kernel_rfl) H1C.out ?_; intro w6 h6 o6))
    obtain ⟨z0, z1, z2, z3, z4⟩ := box_cells h6
    have hfin : RVb w b 0 l β (.returned (.agg #[.int .u8 8, .int .i64 0, .string ⟨x.toArray⟩, .slice none 0 0, .slice none 0 0])) w6 := ⟨(.mk 8 0 x [] []), [.int .u8 8, .int .i64 0, .string ⟨x.toArray⟩, .slice none 0 0, .slice none 0 0], r2, β3, rfl, valAt_leaf (by decide) (by decide) (by decide) (by omega), (H5.out).past o6 (fun k hk => by omega), (HO5.out).trans' o6 (fun k hk e => by omega), (HK.out.text (by decide) K1.out K2.out).1, (HK.out.text (by decide) K1.out K2.out).2⟩
    exact bodyPost_ret (v := .agg #[.int .u8 8, .int .i64 0, .string ⟨x.toArray⟩, .slice none 0 0, .slice none 0 0]) (by simp [results, Try.results64, go_sem, z0, z1, z2, z3, z4]) rfl hfin
  | succ f =>
    have t24 : decide ((24 : Int) ≤ (d : Int)) = false := by simp; omega
    go_upto_region 4 with (fail)
    have hk : Kinded (f + 1) 8 l r1 β β1 := Kinded.of G1.out G2.out
    have hB3 := HBOX.out; have hR3 := HRES.out; have h3 := H3.out; have hO3 := HO.out
    clear HBOX HRES H3 HO
    generalize w2.alloc (.cells #[.int .u8 8, .int .i64 0, .string ByteArray.empty, .slice none 0 0, .slice none 0 0] 35) = w3 at *
    obtain ⟨β2, hβ2⟩ : ∃ β2, β2 = β1 := ⟨_, rfl⟩
    rw [← hβ2] at hk h3
    have HK := Lib.hid hk; have HB3 := Lib.hid hB3; have HR3 := Lib.hid hR3; have HO3 := Lib.hid hO3; have H3R := Lib.hid h3; have HS2 := Lib.hid hs2; clear hk hB3 hR3 hO3 h3 hβ2 G1 G2
    obtain ⟨c0, c1, c2, c3, c4⟩ := box_cells HB3.out
    have ht : Calls Try.prog 34 #[.pointer (some ⟨b, 0, none⟩), .int .i64 200] w3 _ := rtext_b b 200 r1 β2 w3 H3R.out (by decide)
    have HTX := Lib.hid ht; clear ht
    go_wp2_with fail
    refine HTX.out.mono ?_
    rintro e w4 ⟨x, r2, β3, rfl, hx, h4, o4, k1, k2⟩
    have hB4 := (o4.block _ (Array.getElem?_eq_some_iff.1 HB3.out).1 (by have := HS2.out; omega)).trans HB3.out
    have hR4 := (o4.block _ (Array.getElem?_eq_some_iff.1 HR3.out).1 (by omega)).trans HR3.out
    have hfz : ∀ o, w4.frozen? ⟨w2.heap.size, o, none⟩ = false := fun o => by simp [World.frozen?, hB4]
    have hlt4 : w2.heap.size < w4.heap.size := (Array.getElem?_eq_some_iff.1 hB4).1
    clear c0 c1 c2 c3 c4
    obtain ⟨c0, c1, c2, c3, c4⟩ := box_cells hB4
    have hB5 := heap_set (o := 2) hB4 (.string ⟨x.toArray⟩)
    have hB5 : (w4.setCell ⟨w2.heap.size, 2, none⟩ (.string ⟨x.toArray⟩)).heap[w2.heap.size]? = some (.cells #[.int .u8 8, .int .i64 0, .string ⟨x.toArray⟩, .slice none 0 0, .slice none 0 0] 35 (0, 0)) := by simpa using hB5
    have hR5 := heap_set_ne (a := ⟨w2.heap.size, 2, none⟩) hR4 (by have := HS2.out; show w.heap.size ≠ w2.heap.size; omega) (.string ⟨x.toArray⟩)
    have o5 := (Only.refl (fun k => k = w2.heap.size) w4).setCell (p := ⟨w2.heap.size, 2, none⟩) (.inl rfl) (.string ⟨x.toArray⟩)
    have h5 := h4.past o5 (fun k hk => by have := HS2.out; omega)
    have hO5 := (HO3.out.trans o4).trans' o5 (fun k hk e => by have := HS2.out; omega)
    have K1 := Lib.hid k1; have K2 := Lib.hid k2; have HB5 := Lib.hid hB5; have HR5 := Lib.hid hR5; have H5 := Lib.hid h5; have HO5 := Lib.hid hO5; clear k1 k2 hB5 hR5 h5 hO5 o5 o4 h4 hB4 hR4
    go_upto_region 24 with (fail)
    clear c0 c1 c2 c3 c4 hfz hlt4
    generalize w4.setCell ⟨w2.heap.size, 2, none⟩ (.string ⟨x.toArray⟩) = w5 at *
    obtain ⟨c0, c1, c2, c3, c4⟩ := box_cells HB5.out
    have h1c : ∀ v ∈ ([.int .u8 8, .int .i64 0, .string ⟨x.toArray⟩, .slice none 0 0, .slice none 0 0] : List Value), v.oneCell' = true := by intro v hv; simp only [List.mem_cons, List.not_mem_nil, or_false] at hv; rcases hv with rfl | rfl | rfl | rfl | rfl <;> rfl
    have H1C := Lib.hid h1c; clear h1c hz
    go_wp2_with ((refine wpList_store_box (o := ⟨none, _, _, _, _, _⟩) rfl 35 (.tmp 4) (.tmp 78) (by rfl) w.heap.size [.int .u8 0, .int .i64 0, .string ByteArray.empty, .slice none 0 0, .slice none 0 0] [.int .u8 8, .int .i64 0, .string ⟨x.toArray⟩, .slice none 0 0, .slice none 0 0] (by rfl) (by rfl) (HR5.out) rfl (by kernel_rfl) H1C.out ?_; intro w6 h6 o6))
    obtain ⟨z0, z1, z2, z3, z4⟩ := box_cells h6
    have hfin : RVb w b (f + 1) l β (.returned (.agg #[.int .u8 8, .int .i64 0, .string ⟨x.toArray⟩, .slice none 0 0, .slice none 0 0])) w6 := ⟨(.mk 8 0 x [] []), [.int .u8 8, .int .i64 0, .string ⟨x.toArray⟩, .slice none 0 0, .slice none 0 0], r2, β3, rfl, valAt_leaf (by decide) (by decide) (by decide) (by omega), (H5.out).past o6 (fun k hk => by omega), (HO5.out).trans' o6 (fun k hk e => by omega), (HK.out.text (by decide) K1.out K2.out).1, (HK.out.text (by decide) K1.out K2.out).2⟩
    exact bodyPost_ret (v := .agg #[.int .u8 8, .int .i64 0, .string ⟨x.toArray⟩, .slice none 0 0, .slice none 0 0]) (by simp [results, Try.results64, go_sem, z0, z1, z2, z3, z4]) rfl hfin
end Go.Proofs.Ytoojnpafcdaflaa
