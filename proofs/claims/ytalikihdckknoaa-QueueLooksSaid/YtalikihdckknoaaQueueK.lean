/- columbarylaw04.QueueLooks: the walk. -/
import Derived.Test.YtalikihdckknoaaReads
import Derived.Test.YtalikihdckknoaaQueueN
namespace Go.Proofs.Ytalikihdckknoaa
open Go Go.RowKit Go.WideShapes
set_option linter.unusedVariables false
set_option linter.unusedSimpArgs false

set_option maxRecDepth 100000 in
set_option maxHeartbeats 1000000 in
theorem queueLooks0 (v : Value) (len : Nat) (a1 : Int) (w : World) (h : Elems w w.heap.size 1 IsStr v len) (b1 : 0 ≤ a1 ∧ a1 ≤ 255) :
    Calls Try.prog 9 #[v, .int .u8 a1] w fun e w' => e = .returned (.bool true) ∧ Below w.heap.size w w' := by
  obtain ⟨a, cap, rfl, hlc, hc63, _, hel⟩ := h
  have hm : 0 ≤ a1 % 5 ∧ a1 % 5 < 5 := by omega
  have hlen : len ≤ 9223372036854775807 := by omega
  obtain ⟨ss, hss, hcell⟩ : ∃ ss : List ByteArray, ss.length = len ∧ ∀ i, i < len → ∃ b off, a = some ⟨b, off, none⟩ ∧ b < w.heap.size ∧ w.cell? ⟨b, off + i, none⟩ = some (.string (ss.getD i ByteArray.empty)) := by
    obtain ⟨f, hf⟩ := Go.Deep.choose_lt (n := len) (p := fun i s => ∃ b off, a = some ⟨b, off, none⟩ ∧ b < w.heap.size ∧ w.cell? ⟨b, off + i, none⟩ = some (.string s)) (fun i hi => by
      obtain ⟨b, off, cs, h1, h2, h3, h4, s, rfl, h5⟩ := hel i hi
      exact ⟨s, b, off, h1, h2, by simpa using h4 0 (by omega)⟩)
    refine ⟨(List.range len).map f, by simp, fun i hi => ?_⟩
    obtain ⟨b, off, h1, h2, h3⟩ := hf i hi
    exact ⟨b, off, h1, h2, by rw [h3]; simp [hi]⟩
  have HR := Lib.hid hcell; have HS := Lib.hid hss; clear hcell hss hel hc63 hlc
  by_cases h60 : len ≤ 60
  · go_enter Try.func9, Try.ntmps9
    go_wp2_with fail
    refine (q_awake _).mono ?_
    rintro e w1 ⟨rfl, hb1⟩
    go_wp2_with fail
    refine (QS.new_any 64 7 _ (by omega) (by omega)).mono ?_
    rintro e w2 ⟨b, c, rfl, hA, hb2, hgb, hgc⟩
    have hb12 := hb1.trans (hb2.mono hb1.size)
    have hs1 := hb1.size
    have hs2 := hb2.size
    go_wp2
    go_loopw [7] (fun i wr => ∃ k : Nat, k ≤ len ∧ i = .int .i64 k ∧ QS.At wr b c 64 7 ((ss.take k).map Value.string) ∧ Only (fun k => k = b ∨ k = c) w2 wr) (fun i wr => len - (intOf i).toNat)
    case atStart => exact ⟨0, by omega, rfl, hA, Only.refl _ _⟩
    case round =>
      obtain ⟨k, hk, rfl, hA, hO⟩ := hrel
      by_cases hlt : k < len
      · obtain ⟨bz, off, rfl, hbl, hc⟩ := HR.out k hlt
        have hB : wr.cell? ⟨bz, off + k, none⟩ = some (.string (ss.getD k ByteArray.empty)) := by rw [(hb12.trans (hO.below (by omega) (by intro k hk; omega))).cell hbl]; exact hc
        clear hc
        have hsn : ss.take (k + 1) = ss.take k ++ [ss.getD k ByteArray.empty] := by
          rw [List.take_succ_eq_append_getElem (by rw [HS.out]; exact hlt), List.getD_eq_getElem?_getD, List.getElem?_eq_getElem (by rw [HS.out]; exact hlt)]; rfl
        generalize ss.getD k ByteArray.empty = s at hB hsn
        have HN := Lib.hid hsn; clear hsn
        go_wp2_with fail
        refine (QS.put_room _ b c 64 7 _ _ hA (by rw [List.length_map, List.length_take]; omega) (by omega) (by omega)).mono ?_
        rintro e w3 ⟨rfl, hA3, hO3⟩
        have HA := Lib.hid hA3; clear hA3
        go_wp2
        go_roundw
        case rel => exact ⟨k + 1, by omega, by go_num, by rw [HN.out, List.map_append]; exact HA.out, hO.trans (hO3.mono (fun _ _ h => .inr h))⟩
        case measure => simp [intOf]; omega
      · obtain rfl : k = len := by omega
        have ht : ss.take k = ss := by rw [← HS.out]; exact List.take_length
        rw [ht] at hA
        clear ht
        go_wp2
        go_loopw [8] (fun i wr => ∃ m : Nat, m ≤ 5 ∧ i = .int .i64 m ∧ QS.At wr b c 64 7 (ss.map Value.string) ∧ Only (fun k => k = b ∨ k = c) w2 wr) (fun i wr => 6 - (intOf i).toNat)
        case atStart => exact ⟨0, by omega, rfl, hA, hO⟩
        case round =>
          clear hA hO
          obtain ⟨m, hm2, rfl, hA, hO⟩ := hrel
          by_cases hlt : (m : Int) < a1 % 5
          · go_wp2_with fail
            refine (QS.all_any b c 64 7 ss _ hA (by rw [HS.out]; omega) (by omega) hA.lt.1 hA.lt.2).mono ?_
            rintro e w4 ⟨v, rfl, hA4, hown, hO4⟩
            rw [HS.out] at hown
            have hslice := own_slice hown
            obtain ⟨av, capv, rfl, hcells⟩ := hslice
            have hs3 := hO.size
            have hall : ∀ j, j < k → ∃ g, av = some ⟨g, 0, none⟩ ∧ wr.heap.size ≤ g ∧ g < w4.heap.size ∧ (∃ x, w4.cell? ⟨g, j, none⟩ = some x) ∧ w4.frozen? ⟨g, j, none⟩ = false := by
              intro j hj
              obtain ⟨g, rfl, h1, h2, h3⟩ := hcells j hj
              obtain ⟨g', cap', he, _, _, _, h4⟩ := own_at hown (by omega)
              cases he
              exact ⟨g, rfl, h1, h2, ⟨_, h3 _ (List.getElem?_eq_getElem (by rw [List.length_map, HS.out]; exact hj))⟩, h4 j⟩
            have HC := Lib.hid hall; have HA4 := Lib.hid hA4; have HO4 := Lib.hid hO4; clear hall hcells hown hA4 hO4
            go_wp2
            go_loopw [10] (fun i wx => ∃ j : Nat, j ≤ k ∧ i = .int .i64 j ∧ Only (fun g => wr.heap.size ≤ g) w4 wx ∧ (∀ g, (∀ j, w4.frozen? ⟨g, j, none⟩ = wx.frozen? ⟨g, j, none⟩) ∧ ∀ j, (∃ x, w4.cell? ⟨g, j, none⟩ = some x) → ∃ x, wx.cell? ⟨g, j, none⟩ = some x)) (fun i wx => k - (intOf i).toNat)
            case atStart => exact ⟨0, by omega, rfl, Only.refl _ _, fun g => ⟨fun _ => rfl, fun _ h => h⟩⟩
            case round =>
              obtain ⟨j, hj, rfl, hO5, hkeep⟩ := hrel
              have HK := Lib.hid hkeep; clear hkeep
              by_cases hjk : j < k
              · obtain ⟨g, rfl, hg1, hg2, hx, hfz⟩ := HC.out j hjk
                obtain ⟨x, hx⟩ := (HK.out g).2 j hx
                rw [(HK.out g).1] at hfz
                have hji : (j : Int) < k := by omega
                go_wp2
                go_roundw
                case rel =>
                  refine ⟨j + 1, by omega, by go_num, hO5.setCell (.inl hg1) _, fun g' => ⟨fun j' => ?_, fun j' hx' => ?_⟩⟩
                  · rw [(HK.out g').1]; exact (frozen_set _ _ _ _).symm
                  · exact cell_set_some _ _ ((HK.out g').2 j' hx')
                case measure => simp [intOf]; omega
              · obtain rfl : j = k := by omega
                have hA6 := HA4.out.only hO5 (by have := hA.lt; omega) (by have := hA.lt; omega)
                go_wp2
                go_roundw
                case rel => exact ⟨m + 1, by omega, by go_num, hA6, (hO.trans (HO4.out.mono (fun _ _ h => .inr h))).trans' hO5 (by intro i hi hh; omega)⟩
                case measure => simp [intOf]; omega
          · go_wp2
            go_loopw [11] (fun i wr => ∃ m : Nat, m ≤ k ∧ i = .int .i64 m ∧ QS.At wr b c 64 (7 + m) ((ss.drop m).map Value.string) ∧ Only (fun k => k = b ∨ k = c) w2 wr) (fun i wr => k - (intOf i).toNat)
            case atStart => exact ⟨0, by omega, rfl, hA, hO⟩
            case round =>
              clear hA hO
              obtain ⟨j, hj, rfl, hA, hO⟩ := hrel
              by_cases hjk : j < k
              · obtain ⟨bz, off, rfl, hbl, hc⟩ := HR.out j hjk
                have hB : wr.cell? ⟨bz, off + j, none⟩ = some (.string (ss.getD j ByteArray.empty)) := by rw [(hb12.trans (hO.below (by omega) (by intro k hk; omega))).cell hbl]; exact hc
                clear hc
                have hdr : (ss.drop j).map Value.string = .string (ss.getD j ByteArray.empty) :: (ss.drop (j + 1)).map Value.string := by
                  rw [List.drop_eq_getElem_cons (by rw [HS.out]; exact hjk), List.getD_eq_getElem?_getD, List.getElem?_eq_getElem (by rw [HS.out]; exact hjk)]; rfl
                rw [hdr] at hA
                clear hdr
                generalize ss.getD j ByteArray.empty = s at hB hA
                have hji : (j : Int) < k := by omega
                have heq : (s.toList == s.toList) = true := by simp
                go_wp2_with fail
                refine (QS.take_some _ b c 64 (7 + j) _ _ hA (by omega)).mono ?_
                rintro e w3 ⟨rfl, hA3, hO3⟩
                have HA := Lib.hid hA3; clear hA3
                have hB3 : w3.cell? ⟨bz, off + j, none⟩ = some (.string s) := by rw [cell_only hO3 (by show bz < _; have := hO.size; omega) (by show ¬ (bz = b ∨ bz = c); omega)]; exact hB
                clear hB
                go_wp2
                go_roundw
                case rel => exact ⟨j + 1, by omega, by go_num, HA.out, hO.trans hO3⟩
                case measure => simp [intOf]; omega
              · obtain rfl : j = k := by omega
                go_wp2_with fail
                refine (QS.gone_any b c 64 (7 + j) _ _ hA).mono ?_
                rintro e w3 ⟨rfl, rfl⟩
                go_wp2
                go_ret
                exact ⟨ret_bool (by simp), hb12.trans (hO.below (by omega) (by intro k hk; omega))⟩
  · go_enter Try.func9, Try.ntmps9
    go_wp2_with fail
    refine (q_awake _).mono ?_
    rintro e w1 ⟨rfl, hb1⟩
    go_wp2_with fail
    refine (q_awake _).mono ?_
    rintro e w2 ⟨rfl, hb2⟩
    go_wp2
    go_ret
    exact ⟨rfl, hb1.trans (hb2.mono hb1.size)⟩

theorem queueLooks (v : Value) (a1 : Int) (w : World) {H : Type} {enc : TypeId × Value → H} {d : DataW H} {p : List MemPlace} {base : Nat}
    (h : DataW.Trod enc Try.prog w 0 (fun _ => true) true 66 v d p) (hv : Value.okWide Try.prog w .any base 66 v) (w1 : (Lit.int .u8 a1).wf = true) :
    Calls Try.prog 9 #[v, .int .u8 a1] w fun e w' => e = .returned (.bool true) ∧ Below w.heap.size w w' := by
  have b1 : 0 ≤ a1 ∧ a1 ≤ 255 := by simp [Lit.wf, IntKind.min, IntKind.max, IntKind.signed, IntKind.bits] at w1; omega
  obtain ⟨len, hel⟩ := strs_of_trod Try.underlying66 Try.underlying9 (by kernel_rfl) (okWide_slice Try.underlying66 hv) h
  exact queueLooks0 v len a1 w hel b1
end Go.Proofs.Ytalikihdckknoaa
