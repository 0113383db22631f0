/- The reader's value, of the kinds 5. -/
import Derived.Test.YtoojnpafcdaflaaVrp
import Derived.Test.YtoojnpafcdaflaaReg
namespace Go.Proofs.Ytoojnpafcdaflaa
open Go Go.RowKit
set_option linter.unusedVariables false
set_option linter.unusedSimpArgs false
set_option maxRecDepth 100000

set_option maxHeartbeats 8000000 in
theorem rv_5 (f d : Nat) (hdf : d + f = 24) (ih : ∀ f', f = f' + 1 → ∀ (b : Nat) (l : List UInt8) (β : Bool) (w : World), ReaderAt w b l β → Calls Try.prog 64 #[.pointer (some ⟨b, 0, none⟩), .int .i64 ((d + 1 : Nat) : Int)] w (RVb w b f' l β)) (b : Nat) (l : List UInt8) (β : Bool) (w : World) (h : ReaderAt w b l β) (hc0 : β = false) (hc : ∃ r, decU 8 l = some (5, r)) : Calls Try.prog 64 #[.pointer (some ⟨b, 0, none⟩), .int .i64 d] w (RVb w b f l β) := by
  have hz := zero_V
  have hbl := h.lt
  have oa := (Only.refl (fun _ => False) w).alloc (.cells #[.int .u8 0, .int .i64 0, .string ByteArray.empty, .slice none 0 0, .slice none 0 0] 35)
  have hu : Calls Try.prog 32 #[.pointer (some ⟨b, 0, none⟩), .int .u64 8] (w.alloc (.cells #[.int .u8 0, .int .i64 0, .string ByteArray.empty, .slice none 0 0, .slice none 0 0] 35)) _ := ruint_b b 8 l β _ (h.still oa) (by decide)
  have hR0 := heap_new w (.cells #[.int .u8 0, .int .i64 0, .string ByteArray.empty, .slice none 0 0, .slice none 0 0] 35)
  have HU := Lib.hid hu; have HC := Lib.hid hc; have OA := Lib.hid oa; have HR0 := Lib.hid hR0; clear hu hc oa hR0 h
  have HC0 := Lib.hid hc0; clear hc0
  have IH0 := Lib.hid ih; clear ih
  have hd0 : (0 : Int) ≤ (d : Int) := by omega
  have hd1 : (d : Int) ≤ 24 := by omega
  go_enter Try.func64, Try.ntmps64
  go_wp2_with fail
  refine HU.out.mono ?_
  rintro e w2 ⟨x, r1, β1, he, hx8, h2, o2, g1, g2⟩
  have hxc : x = 5 := by
    obtain ⟨r, hr⟩ := HC.out
    cases hβ : β1 with
    | true => rcases (g2 hβ).2 with h | h; (rw [HC0.out] at h; cases h); (rw [hr] at h; cases h)
    | false => rw [(g1 hβ).2] at hr; injection hr with hr; injection hr with hr _
  subst hxc
  have he : e = .returned (.int .u64 5) := he
  subst he
  have hs2 : w.heap.size < w2.heap.size := by have := o2.size; simp at this; omega
  have hbox : (w2.alloc (.cells #[.int .u8 5, .int .i64 0, .string ByteArray.empty, .slice none 0 0, .slice none 0 0] 35)).heap[w2.heap.size]? = some (.cells #[.int .u8 5, .int .i64 0, .string ByteArray.empty, .slice none 0 0, .slice none 0 0] 35 (0, 0)) := heap_new w2 _
  have hres : (w2.alloc (.cells #[.int .u8 5, .int .i64 0, .string ByteArray.empty, .slice none 0 0, .slice none 0 0] 35)).heap[w.heap.size]? = some (.cells #[.int .u8 0, .int .i64 0, .string ByteArray.empty, .slice none 0 0, .slice none 0 0] 35 (0, 0)) := heap_old (by rw [o2.block _ (by simp) (by omega)]; exact HR0.out) _
  have h3 := h2.still ((Only.refl (fun _ => False) w2).alloc (.cells #[.int .u8 5, .int .i64 0, .string ByteArray.empty, .slice none 0 0, .slice none 0 0] 35))
  have hO : Only (fun k => k = b) w (w2.alloc (.cells #[.int .u8 5, .int .i64 0, .string ByteArray.empty, .slice none 0 0, .slice none 0 0] 35)) := ((OA.out.mono (T := fun k => k = b) (fun _ _ h => h.elim)).trans o2).alloc _
  have HBOX := Lib.hid hbox; have HRES := Lib.hid hres; have H3 := Lib.hid h3; have HO := Lib.hid hO; have G1 := Lib.hid g1; have G2 := Lib.hid g2; clear hbox hres h3 hO g1 g2 h2 o2 hx8
  cases f with
  | zero =>
    have t24 : decide ((24 : Int) ≤ (d : Int)) = true := by simp; omega
    go_wp2_with fail
    refine (fail_any b r1 β1 _ H3.out).mono ?_
    rintro e w3 ⟨rfl, h3, o3⟩
    have hk := Kinded.zero 5 l r1 β
    have hB3 := (o3.block _ (Array.getElem?_eq_some_iff.1 HBOX.out).1 (by omega)).trans HBOX.out
    have hR3 := (o3.block _ (Array.getElem?_eq_some_iff.1 HRES.out).1 (by omega)).trans HRES.out
    have hO3 := HO.out.trans o3
    obtain ⟨β2, hβ2⟩ : ∃ β2, β2 = true := ⟨_, rfl⟩
    rw [← hβ2] at hk h3
    go_upto_region 4 with (fail)
    clear o3
    have HK := Lib.hid hk; have HB3 := Lib.hid hB3; have HR3 := Lib.hid hR3; have HO3 := Lib.hid hO3; have H3R := Lib.hid h3; have HS2 := Lib.hid hs2; clear hk hB3 hR3 hO3 h3 hβ2 G1 G2
    obtain ⟨c0, c1, c2, c3, c4⟩ := box_cells HB3.out
    have ht : Calls Try.prog 32 #[.pointer (some ⟨b, 0, none⟩), .int .u64 200] w3 _ := ruint_b b 200 r1 β2 w3 H3R.out (by decide)
    have HTX := Lib.hid ht; clear ht
    go_wp2_with fail
    refine HTX.out.mono ?_
    rintro e w4 ⟨x, r2, β3, rfl, hx, h4, o4, k1, k2⟩
    have hl0 := HK.out.list (by decide) k1 k2
    have hB4 := (o4.block _ (Array.getElem?_eq_some_iff.1 HB3.out).1 (by have := HS2.out; omega)).trans HB3.out
    have hR4 := (o4.block _ (Array.getElem?_eq_some_iff.1 HR3.out).1 (by omega)).trans HR3.out
    have hI0 : LInv 5 0 x l β b w2.heap.size w x w4 := ⟨[], [], .slice none 0 0, .slice none 0 0, [], fun _ => False, r2, β3, hB4, hR4, own_nil _ _ _ _, own_nil _ _ _ _, rfl, (fun q h => h.elim), (fun q h => by cases h), (by simp [Value.ownBlock]), h4, HO3.out.trans o4, hl0, by simp, by simp⟩
    have HI0 := Lib.hid hI0; have HX := Lib.hid hx; clear hI0 hl0 k1 k2 hB4 hR4 h4 o4 c0 c1 c2 c3 c4 HK HB3 HR3 H3R HO3 hx
    have hx0 : (0 : Int) ≤ (x : Int) := by omega
    have hx200 : (x : Int) ≤ 200 := by have := HX.out; omega
    go_wp2_with fail
    go_loopw [6] (fun v wr => ∃ m : Nat, v = .int .u64 (m : Int) ∧ m ≤ x ∧ Hid (LInv 5 0 x l β b w2.heap.size w m wr)) (fun v _ => (intOf v).toNat)
    case atStart => exact ⟨x, rfl, Nat.le_refl _, HI0⟩
    case round =>
      clear HI0
      obtain ⟨m, rfl, hm, HI⟩ := hrel
      obtain ⟨ks, vs, vK, vL, xs, G, r, β5, hB, hR, hK, hL, hCh, hG, hKB, hLB, hRd, hO, hLi, hvm, hkl⟩ := HI.out
      obtain ⟨aK, cK, eK, fK1, fK2, fK3⟩ := own_form hK
      obtain ⟨aL, cL, eL, fL1, fL2, fL3⟩ := own_form hL
      subst eK; subst eL
      have fK2n : cK ≤ 9223372036854775807 := by unfold maxLen at fK2; omega
      have fL2n : cL ≤ 9223372036854775807 := by unfold maxLen at fL2; omega
      have hval : ValAt wr (fun q => w.heap.size + 1 ≤ q) (.mk 5 0 [] ks vs) [.int .u8 5, .int .i64 0, .string ByteArray.empty, .slice aK ks.length cK, .slice aL vs.length cL] := valAt_rows (by decide) hK hL hCh (fun q h => (hG q h).1)
      have HB := Lib.hid hB; have HR := Lib.hid hR; have HKr := Lib.hid hK; have HLr := Lib.hid hL; have HCH := Lib.hid hCh; have HG := Lib.hid hG; have HKB := Lib.hid hKB; have HLB := Lib.hid hLB; have HRD := Lib.hid hRd; have HO := Lib.hid hO; have HLI := Lib.hid hLi; have HVM := Lib.hid hvm; have HKL := Lib.hid hkl; have HVAL := Lib.hid hval; have HFK := Lib.hid fK3; have HFL := Lib.hid fL3
      clear hB hR hK hL hCh hG hKB hLB hRd hO hLi hvm hkl hval HI fK2 fL2 fK3 fL3
      obtain ⟨c0, c1, c2, c3, c4⟩ := box_cells HB.out
      rcases Nat.eq_zero_or_pos m with hm0 | hm0
      · subst hm0
        have h1c : ∀ v ∈ ([.int .u8 5, .int .i64 0, .string ByteArray.empty, .slice aK ks.length cK, .slice aL vs.length cL] : List Value), v.oneCell' = true := by intro v hv; simp only [List.mem_cons, List.not_mem_nil, or_false] at hv; rcases hv with rfl | rfl | rfl | rfl | rfl <;> rfl
        have H1C := Lib.hid h1c; clear h1c hz
        go_wp2_with ((refine wpList_store_box (o := ⟨none, _, _, _, _, _⟩) rfl 35 (.tmp 4) (.tmp 78) (by rfl) w.heap.size [.int .u8 0, .int .i64 0, .string ByteArray.empty, .slice none 0 0, .slice none 0 0] [.int .u8 5, .int .i64 0, .string ByteArray.empty, .slice aK ks.length cK, .slice aL vs.length cL] (by rfl) (by rfl) (HR.out) rfl (by kernel_rfl) H1C.out ?_; intro w6 h6 o6))
        obtain ⟨z0, z1, z2, z3, z4⟩ := box_cells h6
        have hfin : RVb w b 0 l β (.returned (.agg #[.int .u8 5, .int .i64 0, .string ByteArray.empty, .slice aK ks.length cK, .slice aL vs.length cL])) w6 := ⟨(.mk 5 0 [] ks vs), [.int .u8 5, .int .i64 0, .string ByteArray.empty, .slice aK ks.length cK, .slice aL vs.length cL], r, β5, rfl, valAt_weaken (fun q _ h => Nat.le_of_succ_le h) _ _ (valAt_only o6 (fun q hq hk => by omega) _ _ HVAL.out), (HRD.out).past o6 (fun k hk => by omega), (HO.out).trans' o6 (fun k hk e => by omega), HLI.out.done.1, HLI.out.done.2⟩
        exact bodyPost_ret (v := .agg #[.int .u8 5, .int .i64 0, .string ByteArray.empty, .slice aK ks.length cK, .slice aL vs.length cL]) (by simp [results, Try.results64, go_sem, z0, z1, z2, z3, z4]) rfl hfin
      obtain ⟨m, rfl⟩ : ∃ m', m = m' + 1 := ⟨m - 1, by omega⟩
      clear hm0
      have tm : decide ((0 : Int) < ((m + 1 : Nat) : Int)) = true := by first | (simp; done) | (simp; omega)
      have tm2 : decide ((0 : Int) < (m : Int) + 1) = true := by first | (simp; done) | (simp; omega)
      cases β5 with
      | true =>
        go_wp2_with fail
        refine (bad_any b r true wr HRD.out).mono ?_
        rintro e w9 ⟨rfl, rfl⟩
        have h1c : ∀ v ∈ ([.int .u8 5, .int .i64 0, .string ByteArray.empty, .slice aK ks.length cK, .slice aL vs.length cL] : List Value), v.oneCell' = true := by intro v hv; simp only [List.mem_cons, List.not_mem_nil, or_false] at hv; rcases hv with rfl | rfl | rfl | rfl | rfl <;> rfl
        have H1C := Lib.hid h1c; clear h1c hz
        go_wp2_with ((refine wpList_store_box (o := ⟨none, _, _, _, _, _⟩) rfl 35 (.tmp 4) (.tmp 78) (by rfl) w.heap.size [.int .u8 0, .int .i64 0, .string ByteArray.empty, .slice none 0 0, .slice none 0 0] [.int .u8 5, .int .i64 0, .string ByteArray.empty, .slice aK ks.length cK, .slice aL vs.length cL] (by rfl) (by rfl) (HR.out) rfl (by kernel_rfl) H1C.out ?_; intro w6 h6 o6))
        obtain ⟨z0, z1, z2, z3, z4⟩ := box_cells h6
        have hfin : RVb w b 0 l β (.returned (.agg #[.int .u8 5, .int .i64 0, .string ByteArray.empty, .slice aK ks.length cK, .slice aL vs.length cL])) w6 := ⟨(.mk 5 0 [] ks vs), [.int .u8 5, .int .i64 0, .string ByteArray.empty, .slice aK ks.length cK, .slice aL vs.length cL], r, true, rfl, valAt_weaken (fun q _ h => Nat.le_of_succ_le h) _ _ (valAt_only o6 (fun q hq hk => by omega) _ _ HVAL.out), (HRD.out).past o6 (fun k hk => by omega), (HO.out).trans' o6 (fun k hk e => by omega), HLI.out.stop.1, HLI.out.stop.2⟩
        exact bodyPost_ret (v := .agg #[.int .u8 5, .int .i64 0, .string ByteArray.empty, .slice aK ks.length cK, .slice aL vs.length cL]) (by simp [results, Try.results64, go_sem, z0, z1, z2, z3, z4]) rfl hfin
      | false =>
        exfalso
        obtain ⟨_, f', hf, _⟩ := HLI.out.good rfl
        omega
  | succ f =>
    have IH := Lib.hid (IH0.out f rfl); clear IH0
    have t24 : decide ((24 : Int) ≤ (d : Int)) = false := by simp; omega
    go_upto_region 4 with (fail)
    have hk : Kinded (f + 1) 5 l r1 β β1 := Kinded.of G1.out G2.out
    have hB3 := HBOX.out; have hR3 := HRES.out; have h3 := H3.out; have hO3 := HO.out
    clear HBOX HRES H3 HO
    generalize w2.alloc (.cells #[.int .u8 5, .int .i64 0, .string ByteArray.empty, .slice none 0 0, .slice none 0 0] 35) = w3 at *
    obtain ⟨β2, hβ2⟩ : ∃ β2, β2 = β1 := ⟨_, rfl⟩
    rw [← hβ2] at hk h3
    have HK := Lib.hid hk; have HB3 := Lib.hid hB3; have HR3 := Lib.hid hR3; have HO3 := Lib.hid hO3; have H3R := Lib.hid h3; have HS2 := Lib.hid hs2; clear hk hB3 hR3 hO3 h3 hβ2 G1 G2
    obtain ⟨c0, c1, c2, c3, c4⟩ := box_cells HB3.out
    have ht : Calls Try.prog 32 #[.pointer (some ⟨b, 0, none⟩), .int .u64 200] w3 _ := ruint_b b 200 r1 β2 w3 H3R.out (by decide)
    have HTX := Lib.hid ht; clear ht
    go_wp2_with fail
    refine HTX.out.mono ?_
    rintro e w4 ⟨x, r2, β3, rfl, hx, h4, o4, k1, k2⟩
    have hl0 := HK.out.list (by decide) k1 k2
    have hB4 := (o4.block _ (Array.getElem?_eq_some_iff.1 HB3.out).1 (by have := HS2.out; omega)).trans HB3.out
    have hR4 := (o4.block _ (Array.getElem?_eq_some_iff.1 HR3.out).1 (by omega)).trans HR3.out
    have hI0 : LInv 5 (f + 1) x l β b w2.heap.size w x w4 := ⟨[], [], .slice none 0 0, .slice none 0 0, [], fun _ => False, r2, β3, hB4, hR4, own_nil _ _ _ _, own_nil _ _ _ _, rfl, (fun q h => h.elim), (fun q h => by cases h), (by simp [Value.ownBlock]), h4, HO3.out.trans o4, hl0, by simp, by simp⟩
    have HI0 := Lib.hid hI0; have HX := Lib.hid hx; clear hI0 hl0 k1 k2 hB4 hR4 h4 o4 c0 c1 c2 c3 c4 HK HB3 HR3 H3R HO3 hx
    have hx0 : (0 : Int) ≤ (x : Int) := by omega
    have hx200 : (x : Int) ≤ 200 := by have := HX.out; omega
    go_wp2_with fail
    go_loopw [6] (fun v wr => ∃ m : Nat, v = .int .u64 (m : Int) ∧ m ≤ x ∧ Hid (LInv 5 (f + 1) x l β b w2.heap.size w m wr)) (fun v _ => (intOf v).toNat)
    case atStart => exact ⟨x, rfl, Nat.le_refl _, HI0⟩
    case round =>
      clear HI0
      obtain ⟨m, rfl, hm, HI⟩ := hrel
      obtain ⟨ks, vs, vK, vL, xs, G, r, β5, hB, hR, hK, hL, hCh, hG, hKB, hLB, hRd, hO, hLi, hvm, hkl⟩ := HI.out
      obtain ⟨aK, cK, eK, fK1, fK2, fK3⟩ := own_form hK
      obtain ⟨aL, cL, eL, fL1, fL2, fL3⟩ := own_form hL
      subst eK; subst eL
      have fK2n : cK ≤ 9223372036854775807 := by unfold maxLen at fK2; omega
      have fL2n : cL ≤ 9223372036854775807 := by unfold maxLen at fL2; omega
      have hval : ValAt wr (fun q => w.heap.size + 1 ≤ q) (.mk 5 0 [] ks vs) [.int .u8 5, .int .i64 0, .string ByteArray.empty, .slice aK ks.length cK, .slice aL vs.length cL] := valAt_rows (by decide) hK hL hCh (fun q h => (hG q h).1)
      have HB := Lib.hid hB; have HR := Lib.hid hR; have HKr := Lib.hid hK; have HLr := Lib.hid hL; have HCH := Lib.hid hCh; have HG := Lib.hid hG; have HKB := Lib.hid hKB; have HLB := Lib.hid hLB; have HRD := Lib.hid hRd; have HO := Lib.hid hO; have HLI := Lib.hid hLi; have HVM := Lib.hid hvm; have HKL := Lib.hid hkl; have HVAL := Lib.hid hval; have HFK := Lib.hid fK3; have HFL := Lib.hid fL3
      clear hB hR hK hL hCh hG hKB hLB hRd hO hLi hvm hkl hval HI fK2 fL2 fK3 fL3
      obtain ⟨c0, c1, c2, c3, c4⟩ := box_cells HB.out
      rcases Nat.eq_zero_or_pos m with hm0 | hm0
      · subst hm0
        have h1c : ∀ v ∈ ([.int .u8 5, .int .i64 0, .string ByteArray.empty, .slice aK ks.length cK, .slice aL vs.length cL] : List Value), v.oneCell' = true := by intro v hv; simp only [List.mem_cons, List.not_mem_nil, or_false] at hv; rcases hv with rfl | rfl | rfl | rfl | rfl <;> rfl
        have H1C := Lib.hid h1c; clear h1c hz
        go_wp2_with ((refine wpList_store_box (o := ⟨none, _, _, _, _, _⟩) rfl 35 (.tmp 4) (.tmp 78) (by rfl) w.heap.size [.int .u8 0, .int .i64 0, .string ByteArray.empty, .slice none 0 0, .slice none 0 0] [.int .u8 5, .int .i64 0, .string ByteArray.empty, .slice aK ks.length cK, .slice aL vs.length cL] (by rfl) (by rfl) (HR.out) rfl (by kernel_rfl) H1C.out ?_; intro w6 h6 o6))
        obtain ⟨z0, z1, z2, z3, z4⟩ := box_cells h6
        have hfin : RVb w b (f + 1) l β (.returned (.agg #[.int .u8 5, .int .i64 0, .string ByteArray.empty, .slice aK ks.length cK, .slice aL vs.length cL])) w6 := ⟨(.mk 5 0 [] ks vs), [.int .u8 5, .int .i64 0, .string ByteArray.empty, .slice aK ks.length cK, .slice aL vs.length cL], r, β5, rfl, valAt_weaken (fun q _ h => Nat.le_of_succ_le h) _ _ (valAt_only o6 (fun q hq hk => by omega) _ _ HVAL.out), (HRD.out).past o6 (fun k hk => by omega), (HO.out).trans' o6 (fun k hk e => by omega), HLI.out.done.1, HLI.out.done.2⟩
        exact bodyPost_ret (v := .agg #[.int .u8 5, .int .i64 0, .string ByteArray.empty, .slice aK ks.length cK, .slice aL vs.length cL]) (by simp [results, Try.results64, go_sem, z0, z1, z2, z3, z4]) rfl hfin
      obtain ⟨m, rfl⟩ : ∃ m', m = m' + 1 := ⟨m - 1, by omega⟩
      clear hm0
      have tm : decide ((0 : Int) < ((m + 1 : Nat) : Int)) = true := by first | (simp; done) | (simp; omega)
      have tm2 : decide ((0 : Int) < (m : Int) + 1) = true := by first | (simp; done) | (simp; omega)
      cases β5 with
      | true =>
        go_wp2_with fail
        refine (bad_any b r true wr HRD.out).mono ?_
        rintro e w9 ⟨rfl, rfl⟩
        have h1c : ∀ v ∈ ([.int .u8 5, .int .i64 0, .string ByteArray.empty, .slice aK ks.length cK, .slice aL vs.length cL] : List Value), v.oneCell' = true := by intro v hv; simp only [List.mem_cons, List.not_mem_nil, or_false] at hv; rcases hv with rfl | rfl | rfl | rfl | rfl <;> rfl
        have H1C := Lib.hid h1c; clear h1c hz
        go_wp2_with ((refine wpList_store_box (o := ⟨none, _, _, _, _, _⟩) rfl 35 (.tmp 4) (.tmp 78) (by rfl) w.heap.size [.int .u8 0, .int .i64 0, .string ByteArray.empty, .slice none 0 0, .slice none 0 0] [.int .u8 5, .int .i64 0, .string ByteArray.empty, .slice aK ks.length cK, .slice aL vs.length cL] (by rfl) (by rfl) (HR.out) rfl (by kernel_rfl) H1C.out ?_; intro w6 h6 o6))
        obtain ⟨z0, z1, z2, z3, z4⟩ := box_cells h6
        have hfin : RVb w b (f + 1) l β (.returned (.agg #[.int .u8 5, .int .i64 0, .string ByteArray.empty, .slice aK ks.length cK, .slice aL vs.length cL])) w6 := ⟨(.mk 5 0 [] ks vs), [.int .u8 5, .int .i64 0, .string ByteArray.empty, .slice aK ks.length cK, .slice aL vs.length cL], r, true, rfl, valAt_weaken (fun q _ h => Nat.le_of_succ_le h) _ _ (valAt_only o6 (fun q hq hk => by omega) _ _ HVAL.out), (HRD.out).past o6 (fun k hk => by omega), (HO.out).trans' o6 (fun k hk e => by omega), HLI.out.stop.1, HLI.out.stop.2⟩
        exact bodyPost_ret (v := .agg #[.int .u8 5, .int .i64 0, .string ByteArray.empty, .slice aK ks.length cK, .slice aL vs.length cL]) (by simp [results, Try.results64, go_sem, z0, z1, z2, z3, z4]) rfl hfin
      | false =>
        have hm0 : (0 : Int) ≤ (m : Int) := by omega
        have hm1 : (m : Int) ≤ 200 := by have := HX.out; omega
        have hblt : b < wr.heap.size := HRD.out.lt
        have hBlt : w2.heap.size < wr.heap.size := (Array.getElem?_eq_some_iff.1 HB.out).1
        have hRlt : w.heap.size < wr.heap.size := (Array.getElem?_eq_some_iff.1 HR.out).1
        go_wp2_with fail
        refine (bad_any b r false wr HRD.out).mono ?_
        rintro e w9 ⟨rfl, rfl⟩
        go_upto_region 23 with (fail)
        clear c0 c1 c2 c3 c4
        have hblt5 := hblt; have hBlt5 := hBlt; have hRlt5 := hRlt
        have HSZL : Hid (wr.heap.size ≤ wr.heap.size) := Lib.hid (Nat.le_refl _)
        refine wp_region_stepsM 9 (by kernel_rfl) rfl (by kernel_rfl) [some 69, some 70, some 71, some 72, some 73, some 74, some 75, some 76, some 77] rfl rfl 5 7 (fun q => q = b) (fun q => (Value.slice aL vs.length cL).ownBlock = some q) [6, 7, 8, 9] (by kernel_rfl) [2, 3, 4] (by kernel_rfl) (by decide) (by decide) (.inr ⟨by decide, by decide⟩) [(fun v _ => v = (.pointer (some ⟨w2.heap.size, 4, none⟩))), (fun v _ => v = (.slice aL vs.length cL)), (fun v _ => v = (.pointer (some ⟨b, 0, none⟩))), (fun v _ => v = (.int .i64 d)), (fun v _ => v = (.int .i64 ((d : Int) + 1))), (fun v w1 => ∃ (t : VT) (k' : Nat) (n' : Int) (s' : List UInt8) (ak' : Option Addr) (lk' ck' : Nat) (av' : Option Addr) (lv' cv' : Nat) (rV : List UInt8) (βV : Bool), v = .agg #[.int .u8 k', .int .i64 n', .string ⟨s'.toArray⟩, .slice ak' lk' ck', .slice av' lv' cv'] ∧ ValAt w1 (fun q => wr.heap.size ≤ q) t [.int .u8 k', .int .i64 n', .string ⟨s'.toArray⟩, .slice ak' lk' ck', .slice av' lv' cv'] ∧ ReaderAt w1 b rV βV ∧ (βV = false → false = false ∧ decV f r = some (t, rV)) ∧ (βV = true → false = true ∨ decV f r = none)), (fun v w1 => ∃ (g : Nat) (t : VT) (cs : List Value) (rV : List UInt8) (βV : Bool), v = .slice (some ⟨g, 0, none⟩) 1 1 ∧ wr.heap.size ≤ g ∧ g < w1.heap.size ∧ cs.length = 5 ∧ w1.rangeAt g 0 cs ∧ ValAt w1 (fun q => wr.heap.size ≤ q) t cs ∧ ReaderAt w1 b rV βV ∧ (βV = false → false = false ∧ decV f r = some (t, rV)) ∧ (βV = true → false = true ∨ decV f r = none)), (fun v w1 => ∃ (t : VT) (cs : List Value) (rV : List UInt8) (βV : Bool), w1.ownsRow (w.heap.size + 1) 35 5 v (vs.length + 1) (xs ++ cs) ∧ (∀ q, v.ownBlock = some q → (Value.slice aL vs.length cL).ownBlock = some q ∨ wr.heap.size ≤ q) ∧ cs.length = 5 ∧ ValAt w1 (fun q => wr.heap.size ≤ q ∧ v.ownBlock ≠ some q) t cs ∧ ReaderAt w1 b rV βV ∧ (βV = false → false = false ∧ decV f r = some (t, rV)) ∧ (βV = true → false = true ∨ decV f r = none)), (fun v _ => v = (.pointer (some ⟨w2.heap.size, 4, none⟩)))] rfl ⟨?_, ?_, ?_, ?_, ?_, ?_, ?_, ?_, ?_, trivial⟩ _ rfl ⟨?_, ?_, ?_, ?_, ?_, ?_, ?_, ?_, ?_, trivial⟩ ?_
        · exact Stable.is _ _
        · exact Stable.is _ _
        · exact Stable.is _ _
        · exact Stable.is _ _
        · exact Stable.is _ _
        · intro v w1 w2 h ho
          have ho : Only (fun q => (Value.slice aL vs.length cL).ownBlock = some q) w1 w2 := ho
          exact (by obtain ⟨t, k', n', s', ak', lk', ck', av', lv', cv', rV, βV, e1, e2, e3, e4⟩ := h; exact ⟨t, k', n', s', ak', lk', ck', av', lv', cv', rV, βV, e1, valAt_only ho (fun q hq hk => by have := (HFL.out q hk).2; have := HSZL.out; omega) _ _ e2, e3.past ho (fun k hk => by have := (HFL.out k hk).1; omega), e4⟩)
        · intro v w1 w2 h ho
          have ho : Only (fun q => (Value.slice aL vs.length cL).ownBlock = some q) w1 w2 := ho
          exact (by obtain ⟨g, t, cs, rV, βV, e1, e2, e3, e4, e5, e6, e7, e8⟩ := h; have hng : ¬ (Value.slice aL vs.length cL).ownBlock = some g := fun hk => (by have := (HFL.out g hk).2; have := HSZL.out; omega); exact ⟨g, t, cs, rV, βV, e1, e2, Nat.lt_of_lt_of_le e3 ho.size, e4, range_only e5 e3 ho hng, valAt_only ho (fun q hq hk => by have := (HFL.out q hk).2; have := HSZL.out; omega) _ _ e6, e7.past ho (fun k hk => by have := (HFL.out k hk).1; omega), e8⟩)
        · intro v w1 w2 h ho
          have ho : Only (fun _ => False) w1 w2 := ho
          exact (by obtain ⟨t, cs, rV, βV, e1, e2, e3, e4, e5, e6⟩ := h; exact ⟨t, cs, rV, βV, own_only' e1 ho (fun _ _ h => h), e2, e3, valAt_only ho (fun _ _ h => h) _ _ e4, e5.still ho, e6⟩)
        · exact Stable.is _ _
        · intro x wx ox hN TT HTT
          have ox : Only (fun q => (fun q => q = b) q ∨ (fun q => (Value.slice aL vs.length cL).ownBlock = some q) q) _ wx := ox
          clear hN
          unfold StepTo
          simp only [putAll, Act.put, List.setIfInBounds_toArray, List.set_cons_succ, List.set_cons_zero]
          go_wp2_with fail
          exact ⟨rfl, _, rfl, HTT.out _ _ (rfl) (Only.refl _ _)⟩
        · intro x wx ox hN TT HTT
          have ox : Only (fun q => (fun q => q = b) q ∨ (fun q => (Value.slice aL vs.length cL).ownBlock = some q) q) _ wx := ox
          have r69 : x 0 = (.pointer (some ⟨w2.heap.size, 4, none⟩)) := hN.1 rfl
          clear hN
          unfold StepTo
          simp only [putAll, Act.put, List.setIfInBounds_toArray, List.set_cons_succ, List.set_cons_zero, r69]
          clear r69
          have hbx := (ox.block _ hBlt5 (fun h => by rcases h with h | h; (have := HS2.out; omega); exact HLB.out h)).trans HB.out
          obtain ⟨c0, c1, c2, c3, c4⟩ := box_cells hbx
          clear hbx
          go_wp2_with fail
          exact ⟨rfl, _, rfl, HTT.out _ _ (rfl) (Only.refl _ _)⟩
        · intro x wx ox hN TT HTT
          have ox : Only (fun _ => False) _ wx := ox
          clear hN
          unfold StepTo
          simp only [putAll, Act.put, List.setIfInBounds_toArray, List.set_cons_succ, List.set_cons_zero]
          go_wp2_with fail
          exact ⟨rfl, _, rfl, HTT.out _ _ (rfl) (Only.refl _ _)⟩
        · intro x wx ox hN TT HTT
          have ox : Only (fun _ => False) _ wx := ox
          clear hN
          unfold StepTo
          simp only [putAll, Act.put, List.setIfInBounds_toArray, List.set_cons_succ, List.set_cons_zero]
          go_wp2_with fail
          exact ⟨rfl, _, rfl, HTT.out _ _ (rfl) (Only.refl _ _)⟩
        · intro x wx ox hN TT HTT
          have ox : Only (fun _ => False) _ wx := ox
          have r72 : x 3 = (.int .i64 d) := hN.1 rfl
          clear hN
          unfold StepTo
          simp only [putAll, Act.put, List.setIfInBounds_toArray, List.set_cons_succ, List.set_cons_zero, r72]
          clear r72
          go_wp2_with fail
          exact ⟨rfl, _, rfl, HTT.out _ _ (rfl) (Only.refl _ _)⟩
        · intro x wx ox hN TT HTT
          have ox : Only (fun _ => False) _ wx := ox
          have r71 : x 2 = (.pointer (some ⟨b, 0, none⟩)) := hN.1 rfl
          have r73 : x 4 = (.int .i64 ((d : Int) + 1)) := hN.2.1 rfl
          clear hN
          unfold StepTo
          simp only [putAll, Act.put, List.setIfInBounds_toArray, List.set_cons_succ, List.set_cons_zero, r71, r73]
          clear r71 r73
          have hrx := HRD.out.still (((Only.refl _ wr).drew).trans ox)
          have hsl : wr.heap.size ≤ wx.heap.size := ox.size
          have ht := IH.out b r false wx hrx
          rw [Int.natCast_add] at ht
          have HT := Lib.hid ht; have HSL := Lib.hid hsl; clear ht hrx hsl
          go_wp2_with fail
          refine HT.out.mono ?_
          rintro e w6 ⟨t, cs, rV, βV, rfl, hv6, h6, o6, k1, k2⟩
          obtain ⟨k', n', s', ak', lk', ck', av', lv', cv', rfl⟩ := valAt_form hv6
          have K1 := Lib.hid k1; have K2 := Lib.hid k2; have H6 := Lib.hid h6; have O6 := Lib.hid o6; have HV6 := Lib.hid hv6; clear k1 k2 h6 o6 hv6
          go_wp2_with fail
          exact ⟨rfl, _, rfl, HTT.out _ _ (⟨t, k', n', s', ak', lk', ck', av', lv', cv', rV, βV, rfl, valAt_weaken (fun q _ h => Nat.le_trans HSL.out h) _ _ HV6.out, H6.out, K1.out, K2.out⟩) (O6.out)⟩
        · intro x wx ox hN TT HTT
          have ox : Only (fun q => (fun q => q = b) q ∨ (fun q => (Value.slice aL vs.length cL).ownBlock = some q) q) _ wx := ox
          have r74 : (fun (v : Value) (w1 : World) => ∃ (t : VT) (k' : Nat) (n' : Int) (s' : List UInt8) (ak' : Option Addr) (lk' ck' : Nat) (av' : Option Addr) (lv' cv' : Nat) (rV : List UInt8) (βV : Bool), v = .agg #[.int .u8 k', .int .i64 n', .string ⟨s'.toArray⟩, .slice ak' lk' ck', .slice av' lv' cv'] ∧ ValAt w1 (fun q => wr.heap.size ≤ q) t [.int .u8 k', .int .i64 n', .string ⟨s'.toArray⟩, .slice ak' lk' ck', .slice av' lv' cv'] ∧ ReaderAt w1 b rV βV ∧ (βV = false → false = false ∧ decV f r = some (t, rV)) ∧ (βV = true → false = true ∨ decV f r = none)) (x 5) wx := hN.1 rfl
          clear hN
          unfold StepTo
          simp only [putAll, Act.put, List.setIfInBounds_toArray, List.set_cons_succ, List.set_cons_zero]
          obtain ⟨t, k', n', s', ak', lk', ck', av', lv', cv', rV, βV, e1, e2, e3, e4, e5⟩ := r74
          simp only [e1]
          have hn := heap_new wx (.cells #[.int .u8 k', .int .i64 n', .string ⟨s'.toArray⟩, .slice ak' lk' ck', .slice av' lv' cv'] 35)
          have on := (Only.refl (fun _ => False) wx).alloc (.cells #[.int .u8 k', .int .i64 n', .string ⟨s'.toArray⟩, .slice ak' lk' ck', .slice av' lv' cv'] 35)
          have hgl : wr.heap.size ≤ wx.heap.size := ox.size
          have K1 := Lib.hid e4; have K2 := Lib.hid e5; have H3 := Lib.hid e3; have HN := Lib.hid hn; have ON := Lib.hid on; have HGL2 := Lib.hid hgl; have HV2 := Lib.hid e2; clear e1 e2 e3 e4 e5 hn on hgl
          go_wp2_with fail
          exact ⟨rfl, _, rfl, HTT.out _ _ (⟨wx.heap.size, t, _, rV, βV, rfl, HGL2.out, by simp, rfl, range_of_block HN.out, valAt_only ON.out (fun _ _ h => h) _ _ HV2.out, H3.out.still ON.out, K1.out, K2.out⟩) (ON.out)⟩
        · intro x wx ox hN TT HTT
          have ox : Only (fun q => q = b) _ wx := ox
          have r70 : x 1 = (.slice aL vs.length cL) := hN.1 rfl
          have r75 : (fun (v : Value) (w1 : World) => ∃ (g : Nat) (t : VT) (cs : List Value) (rV : List UInt8) (βV : Bool), v = .slice (some ⟨g, 0, none⟩) 1 1 ∧ wr.heap.size ≤ g ∧ g < w1.heap.size ∧ cs.length = 5 ∧ w1.rangeAt g 0 cs ∧ ValAt w1 (fun q => wr.heap.size ≤ q) t cs ∧ ReaderAt w1 b rV βV ∧ (βV = false → false = false ∧ decV f r = some (t, rV)) ∧ (βV = true → false = true ∨ decV f r = none)) (x 6) wx := hN.2.1 rfl
          have r74 : (fun (v : Value) (w1 : World) => ∃ (t : VT) (k' : Nat) (n' : Int) (s' : List UInt8) (ak' : Option Addr) (lk' ck' : Nat) (av' : Option Addr) (lv' cv' : Nat) (rV : List UInt8) (βV : Bool), v = .agg #[.int .u8 k', .int .i64 n', .string ⟨s'.toArray⟩, .slice ak' lk' ck', .slice av' lv' cv'] ∧ ValAt w1 (fun q => wr.heap.size ≤ q) t [.int .u8 k', .int .i64 n', .string ⟨s'.toArray⟩, .slice ak' lk' ck', .slice av' lv' cv'] ∧ ReaderAt w1 b rV βV ∧ (βV = false → false = false ∧ decV f r = some (t, rV)) ∧ (βV = true → false = true ∨ decV f r = none)) (x 5) wx := hN.2.2.1 rfl
          clear hN
          unfold StepTo
          simp only [putAll, Act.put, List.setIfInBounds_toArray, List.set_cons_succ, List.set_cons_zero, r70]
          clear r70
          obtain ⟨g, t, cs, rV, βV, e1, e2, e3, e4, e5, e6, e7, e8, e9⟩ := r75
          simp only [e1]
          have hox := own_only' HLr.out (((Only.refl _ wr).drew).trans ox) (fun k hk e => by have := (HFL.out k hk).1; omega)
          have hys : ∀ j u, cs[j]? = some u → wx.cell? ((⟨g, 0, none⟩ : Addr).add j) = some u := fun j u hu => by rw [addr_add]; exact e5 j u hu
          have hone : ∀ u ∈ cs, u.oneCell' = true := valAt_one e6
          have hsl : wr.heap.size ≤ wx.heap.size := ox.size
          have hkb : (vs.length + 1) ≤ 201 := by have h2 := HVM.out; have h3 := HX.out; omega
          have HOX := Lib.hid hox; have HYS := Lib.hid hys; have HSL := Lib.hid hsl; have HKB2 := Lib.hid hkb; have K1 := Lib.hid e8; have K2 := Lib.hid e9; have H6 := Lib.hid e7; have HV6 := Lib.hid e6; have HONE := Lib.hid hone; clear hox hys hsl hkb e8 e9 e7 e6 e5 e1 hone
          go_wp2_with ((refine wpList_append_own2 (o := ⟨some 76, _, _, _, _, _⟩) rfl (.tmp 70) (.tmp 75) 33 35 (by rfl) Try.underlying33 infoVal rfl (by decide) (w.heap.size + 1) (.slice aL vs.length cL) vs.length 1 1 xs cs ⟨g, 0, none⟩ (by rfl) (by rfl) HOX.out (by rw [e4]) HYS.out HONE.out (by have := HKB2.out; unfold maxLen; omega) (by have := HKB2.out; omega) (by have := HSL.out; omega) ?_; intro v' w9 q1 q2 q3))
          have hv8 : ValAt wx (fun q => wr.heap.size ≤ q ∧ v'.ownBlock ≠ some q) t cs := valAt_weaken (fun q hq h => ⟨h, fun hv => by rcases q3 q hv with h2 | h2; (have := (HFL.out q h2).2; have := HSZL.out; omega); omega⟩) _ _ HV6.out
          have hv9 := valAt_only q2 (fun q hq hk => by have := (HFL.out q hk).2; have := HSZL.out; omega) _ _ hv8
          exact ⟨rfl, _, rfl, HTT.out _ _ (⟨t, cs, rV, βV, q1, fun q hq => (q3 q hq).imp id (fun h => Nat.le_trans HSL.out h), e4, hv9, H6.out.past q2 (fun k hk => by have := (HFL.out k hk).1; omega), K1.out, K2.out⟩) (q2)⟩
        · intro x wx ox hN TT HTT
          have ox : Only (fun q => (fun q => q = b) q ∨ (fun q => (Value.slice aL vs.length cL).ownBlock = some q) q) _ wx := ox
          have r69 : x 0 = (.pointer (some ⟨w2.heap.size, 4, none⟩)) := hN.1 rfl
          have r70 : x 1 = (.slice aL vs.length cL) := hN.2.1 rfl
          have r71 : x 2 = (.pointer (some ⟨b, 0, none⟩)) := hN.2.2.1 rfl
          have r72 : x 3 = (.int .i64 d) := hN.2.2.2.1 rfl
          have r73 : x 4 = (.int .i64 ((d : Int) + 1)) := hN.2.2.2.2.1 rfl
          have r74 : (fun (v : Value) (w1 : World) => ∃ (t : VT) (k' : Nat) (n' : Int) (s' : List UInt8) (ak' : Option Addr) (lk' ck' : Nat) (av' : Option Addr) (lv' cv' : Nat) (rV : List UInt8) (βV : Bool), v = .agg #[.int .u8 k', .int .i64 n', .string ⟨s'.toArray⟩, .slice ak' lk' ck', .slice av' lv' cv'] ∧ ValAt w1 (fun q => wr.heap.size ≤ q) t [.int .u8 k', .int .i64 n', .string ⟨s'.toArray⟩, .slice ak' lk' ck', .slice av' lv' cv'] ∧ ReaderAt w1 b rV βV ∧ (βV = false → false = false ∧ decV f r = some (t, rV)) ∧ (βV = true → false = true ∨ decV f r = none)) (x 5) wx := hN.2.2.2.2.2.1 rfl
          have r75 : (fun (v : Value) (w1 : World) => ∃ (g : Nat) (t : VT) (cs : List Value) (rV : List UInt8) (βV : Bool), v = .slice (some ⟨g, 0, none⟩) 1 1 ∧ wr.heap.size ≤ g ∧ g < w1.heap.size ∧ cs.length = 5 ∧ w1.rangeAt g 0 cs ∧ ValAt w1 (fun q => wr.heap.size ≤ q) t cs ∧ ReaderAt w1 b rV βV ∧ (βV = false → false = false ∧ decV f r = some (t, rV)) ∧ (βV = true → false = true ∨ decV f r = none)) (x 6) wx := hN.2.2.2.2.2.2.1 rfl
          have r76 : (fun (v : Value) (w1 : World) => ∃ (t : VT) (cs : List Value) (rV : List UInt8) (βV : Bool), w1.ownsRow (w.heap.size + 1) 35 5 v (vs.length + 1) (xs ++ cs) ∧ (∀ q, v.ownBlock = some q → (Value.slice aL vs.length cL).ownBlock = some q ∨ wr.heap.size ≤ q) ∧ cs.length = 5 ∧ ValAt w1 (fun q => wr.heap.size ≤ q ∧ v.ownBlock ≠ some q) t cs ∧ ReaderAt w1 b rV βV ∧ (βV = false → false = false ∧ decV f r = some (t, rV)) ∧ (βV = true → false = true ∨ decV f r = none)) (x 7) wx := hN.2.2.2.2.2.2.2.1 rfl
          clear hN
          unfold StepTo
          simp only [putAll, Act.put, List.setIfInBounds_toArray, List.set_cons_succ, List.set_cons_zero, r69, r70, r71, r72, r73]
          clear r69 r70 r71 r72 r73
          go_wp2_with fail
          exact ⟨rfl, _, rfl, HTT.out _ _ (rfl) (Only.refl _ _)⟩
        intro xb wxb oxb hN
        have oxb : Only (fun q => (fun q => q = b) q ∨ (fun q => (Value.slice aL vs.length cL).ownBlock = some q) q) _ wxb := oxb
        have r69 : xb 0 = (.pointer (some ⟨w2.heap.size, 4, none⟩)) := hN.1
        have r70 : xb 1 = (.slice aL vs.length cL) := hN.2.1
        have r71 : xb 2 = (.pointer (some ⟨b, 0, none⟩)) := hN.2.2.1
        have r72 : xb 3 = (.int .i64 d) := hN.2.2.2.1
        have r73 : xb 4 = (.int .i64 ((d : Int) + 1)) := hN.2.2.2.2.1
        have r74 : (fun (v : Value) (w1 : World) => ∃ (t : VT) (k' : Nat) (n' : Int) (s' : List UInt8) (ak' : Option Addr) (lk' ck' : Nat) (av' : Option Addr) (lv' cv' : Nat) (rV : List UInt8) (βV : Bool), v = .agg #[.int .u8 k', .int .i64 n', .string ⟨s'.toArray⟩, .slice ak' lk' ck', .slice av' lv' cv'] ∧ ValAt w1 (fun q => wr.heap.size ≤ q) t [.int .u8 k', .int .i64 n', .string ⟨s'.toArray⟩, .slice ak' lk' ck', .slice av' lv' cv'] ∧ ReaderAt w1 b rV βV ∧ (βV = false → false = false ∧ decV f r = some (t, rV)) ∧ (βV = true → false = true ∨ decV f r = none)) (xb 5) wxb := hN.2.2.2.2.2.1
        have r75 : (fun (v : Value) (w1 : World) => ∃ (g : Nat) (t : VT) (cs : List Value) (rV : List UInt8) (βV : Bool), v = .slice (some ⟨g, 0, none⟩) 1 1 ∧ wr.heap.size ≤ g ∧ g < w1.heap.size ∧ cs.length = 5 ∧ w1.rangeAt g 0 cs ∧ ValAt w1 (fun q => wr.heap.size ≤ q) t cs ∧ ReaderAt w1 b rV βV ∧ (βV = false → false = false ∧ decV f r = some (t, rV)) ∧ (βV = true → false = true ∨ decV f r = none)) (xb 6) wxb := hN.2.2.2.2.2.2.1
        have r76 : (fun (v : Value) (w1 : World) => ∃ (t : VT) (cs : List Value) (rV : List UInt8) (βV : Bool), w1.ownsRow (w.heap.size + 1) 35 5 v (vs.length + 1) (xs ++ cs) ∧ (∀ q, v.ownBlock = some q → (Value.slice aL vs.length cL).ownBlock = some q ∨ wr.heap.size ≤ q) ∧ cs.length = 5 ∧ ValAt w1 (fun q => wr.heap.size ≤ q ∧ v.ownBlock ≠ some q) t cs ∧ ReaderAt w1 b rV βV ∧ (βV = false → false = false ∧ decV f r = some (t, rV)) ∧ (βV = true → false = true ∨ decV f r = none)) (xb 7) wxb := hN.2.2.2.2.2.2.2.1
        have r77 : xb 8 = (.pointer (some ⟨w2.heap.size, 4, none⟩)) := hN.2.2.2.2.2.2.2.2.1
        clear hN
        simp only [putAll, Act.put, List.setIfInBounds_toArray, List.set_cons_succ, List.set_cons_zero, r69, r70, r71, r72, r73, r77]
        clear r69 r70 r71 r72 r73 r77
        obtain ⟨t, cs, rV, βV, q1, q2, q3, q4, q5, p9, p10⟩ := r76
        obtain ⟨aL', cL', eL', gL1, gL2, gL3⟩ := own_form q1
        rw [eL'] at q1 q2 q4 gL3 ⊢
        have gL2n : cL' ≤ 9223372036854775807 := by unfold maxLen at gL2; omega
        have hBb := (oxb.block _ hBlt5 (fun h => by rcases h with h | h; (have := HS2.out; omega); exact HLB.out h)).trans HB.out
        have hRb := (oxb.block _ hRlt5 (fun h => by rcases h with h | h; omega; (have := (HFL.out _ h).1; omega))).trans HR.out
        have hfz : ∀ o, wxb.frozen? ⟨w2.heap.size, o, none⟩ = false := fun o => by simp [World.frozen?, hBb]
        have hltb : w2.heap.size < wxb.heap.size := (Array.getElem?_eq_some_iff.1 hBb).1
        obtain ⟨c0, c1, c2, c3, c4⟩ := box_cells hBb
        have hB6 := heap_set (o := 4) hBb (.slice aL' (vs.length + 1) cL')
        have hB6 : (wxb.setCell ⟨w2.heap.size, 4, none⟩ (.slice aL' (vs.length + 1) cL')).heap[w2.heap.size]? = some (.cells #[.int .u8 5, .int .i64 0, .string ByteArray.empty, .slice aK ks.length cK, .slice aL' (vs.length + 1) cL'] 35 (0, 0)) := by simpa using hB6
        have hR6 := heap_set_ne (a := ⟨w2.heap.size, 4, none⟩) hRb (by have := HS2.out; show w.heap.size ≠ w2.heap.size; omega) (.slice aL' (vs.length + 1) cL')
        have o6 := (Only.refl (fun k => k = w2.heap.size) wxb).setCell (p := ⟨w2.heap.size, 4, none⟩) (.inl rfl) (.slice aL' (vs.length + 1) cL')
        have hrd6 := q5.past o6 (fun k hk => by have := HS2.out; omega)
        have hob : Only (fun q => q = b ∨ q = w2.heap.size ∨ (Value.slice aL vs.length cL).ownBlock = some q) wr (wxb.setCell ⟨w2.heap.size, 4, none⟩ (.slice aL' (vs.length + 1) cL')) := ((((Only.refl _ wr).drew).trans' oxb (fun q _ h => h.imp id .inr)).trans' o6 (fun q _ h => .inr (.inl h)))
        have hL6 := own_only' q1 o6 (fun k hk e => by rcases q2 k hk with h | h; exact HLB.out (e ▸ h); omega)
        have qK := own_only' HKr.out hob (fun k hk h => by rcases h with h | h | h; (have := (HFK.out k hk).1; omega); exact (HKB.out k hk).1 h; exact (HKB.out k hk).2 h)
        have hC6 := HCH.out.only hob (fun k hk h => by have hg := HG.out k hk; rcases h with h | h | h; (have := hg.1; omega); exact hg.2.2.1 h; exact hg.2.2.2.2 h)
        have hO6 : Only (fun k => k = b) w (wxb.setCell ⟨w2.heap.size, 4, none⟩ (.slice aL' (vs.length + 1) cL')) := HO.out.trans' hob (fun q hq h => by rcases h with h | h | h; exact h; (have := HS2.out; omega); (have := (HFL.out q h).1; omega))
        have hsz6 : wr.heap.size ≤ (wxb.setCell ⟨w2.heap.size, 4, none⟩ (.slice aL' (vs.length + 1) cL')).heap.size := hob.size
        have hv6 := valAt_only o6 (fun q hq hk => by have := hq.1; omega) _ _ q4
        have hCC : Chunks (wxb.setCell ⟨w2.heap.size, 4, none⟩ (.slice aL' (vs.length + 1) cL')) (fun q => G q ∨ (wr.heap.size ≤ q ∧ q < (wxb.setCell ⟨w2.heap.size, 4, none⟩ (.slice aL' (vs.length + 1) cL')).heap.size ∧ (Value.slice aL' (vs.length + 1) cL').ownBlock ≠ some q)) (vs ++ [t]) (xs ++ cs) := Chunks.snoc q3 (valAt_weaken (fun q hq h => .inr ⟨h.1, hq, h.2⟩) _ _ hv6) (hC6.weaken (fun q _ h => .inl h))
        have hG6 : ∀ q, (G q ∨ (wr.heap.size ≤ q ∧ q < (wxb.setCell ⟨w2.heap.size, 4, none⟩ (.slice aL' (vs.length + 1) cL')).heap.size ∧ (Value.slice aL' (vs.length + 1) cL').ownBlock ≠ some q)) → w.heap.size + 1 ≤ q ∧ q < (wxb.setCell ⟨w2.heap.size, 4, none⟩ (.slice aL' (vs.length + 1) cL')).heap.size ∧ q ≠ w2.heap.size ∧ (Value.slice aK ks.length cK).ownBlock ≠ some q ∧ (Value.slice aL' (vs.length + 1) cL').ownBlock ≠ some q := fun q hq => by
          rcases hq with hq | ⟨hq1, hq2, hq3⟩
          · have hg := HG.out q hq
            refine ⟨hg.1, by omega, hg.2.2.1, hg.2.2.2.1, fun h => ?_⟩
            rcases q2 q h with h | h
            · exact hg.2.2.2.2 h
            · omega
          · exact ⟨by omega, hq2, by omega, (fun h => by have := (HFK.out q h).2; omega), hq3⟩
        have hKB6 : ∀ q, (Value.slice aK ks.length cK).ownBlock = some q → q ≠ w2.heap.size ∧ (Value.slice aL' (vs.length + 1) cL').ownBlock ≠ some q := fun q hq => by
          refine ⟨(HKB.out q hq).1, fun h => ?_⟩
          rcases q2 q h with h | h
          · exact (HKB.out q hq).2 h
          · have := (HFK.out q hq).2
            omega
        have hLB6 : (Value.slice aL' (vs.length + 1) cL').ownBlock ≠ some w2.heap.size := fun h => by
          rcases q2 _ h with h | h
          · exact HLB.out h
          · omega
        have hLI6 : Listed (f + 1) 5 x l β ks (vs ++ [t]) rV m βV := (by have hn := HKL.out; rw [if_neg (by decide)] at hn; have hn := List.eq_nil_of_length_eq_zero hn; subst hn; exact HLI.out.next5 p9 p10)
        have hNEW : LInv 5 (f + 1) x l β b w2.heap.size w m (wxb.setCell ⟨w2.heap.size, 4, none⟩ (.slice aL' (vs.length + 1) cL')) := ⟨ks, vs ++ [t], .slice aK ks.length cK, .slice aL' (vs.length + 1) cL', xs ++ cs, _, rV, βV, hB6, hR6, qK, by rw [List.length_append, List.length_singleton]; exact hL6, hCC, hG6, hKB6, hLB6, hrd6, hO6, hLI6, by have h1 := HVM.out; rw [List.length_append, List.length_singleton]; omega, by have h1 := HKL.out; rw [if_neg (by decide)] at h1; rw [if_neg (by decide)]; exact h1⟩
        have HNEW := Lib.hid hNEW
        clear hNEW hLI6 hLB6 hKB6 hG6 hCC hv6 hsz6 hO6 hC6 qK hL6 hob hrd6 o6 hR6 hB6 q1 q2 q3 q4 q5 p9 p10 gL2 gL3 eL' hBb hRb oxb r74 r75
        go_wp2_with fail
        go_roundw
        case rel => exact ⟨m, by simp [go_sem], by omega, HNEW⟩
        case measure => simp [intOf]
end Go.Proofs.Ytoojnpafcdaflaa
