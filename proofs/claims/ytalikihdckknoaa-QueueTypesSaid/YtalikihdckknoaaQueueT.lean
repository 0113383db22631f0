/- columbarylaw04.QueueTypes: the walk. -/
import Derived.Test.YtalikihdckknoaaActs
import Derived.Test.YtalikihdckknoaaQueueP
import Derived.Test.YtalikihdckknoaaQueueN
import Derived.Laws.StructEq
namespace Go.Proofs.Ytalikihdckknoaa
open Go Go.RowKit Go.WideShapes
set_option linter.unusedVariables false
set_option linter.unusedSimpArgs false

theorem list2 {α : Type} {cs : List α} (h : cs.length = 2) : ∃ a b, cs = [a, b] := by
  match cs, h with
  | [a, b], _ => exact ⟨a, b, rfl⟩
def IsPair (cs : List Value) : Prop := ∃ (k : Int) (s : ByteArray), cs = [.int .i64 k, .string s]
theorem pairs_of_trod {H : Type} {enc : TypeId × Value → H} {w : World} {v : Value} {d : DataW H} {p : List MemPlace} (hv : ∃ a len cap, v = .slice a len cap)
    (h : DataW.Trod enc Try.prog w 0 (fun _ => true) true 32 v d p) : ∃ len, Elems w w.heap.size 2 IsPair v len :=
  elems_of_trod Try.underlying32 (by kernel_rfl) (by omega) hv h (fun n cs x hx => by
    obtain ⟨xs, m, rfl, rfl, hl, hxl, hf⟩ := DataW.trod_struct Try.underlying37 hx
    obtain ⟨c0, c1, rfl⟩ := list2 (hl.trans (by kernel_rfl))
    obtain ⟨y0, y1, rfl⟩ := list2 (hxl.trans rfl)
    have f0 := field_at hf 0 3 0 1 rfl (by kernel_rfl)
    have f1 := field_at hf 1 9 1 1 rfl (by kernel_rfl)
    obtain ⟨k, e0, _, h0⟩ := DataW.trod_int Try.underlying3 f0
    obtain ⟨s, e1, _, h1⟩ := DataW.trod_string Try.underlying9 f1
    simp at e0 e1
    subst e0; subst e1
    exact ⟨k, s, rfl⟩)

def mkP (p : Int × ByteArray) : Value := .agg #[.int .i64 p.1, .string p.2]
def mkI (j : Nat) : Value := .int .i64 j

set_option maxRecDepth 100000 in
set_option maxHeartbeats 2000000 in
theorem queueTypes0 (v : Value) (len : Nat) (a1 : Int) (w : World) (h : Elems w w.heap.size 2 IsPair v len) (b1 : 0 ≤ a1 ∧ a1 ≤ 255) :
    Calls Try.prog 5 #[v, .int .u8 a1] w fun e w' => e = .returned (.bool true) ∧ Below w.heap.size w w' := by
  obtain ⟨a, cap, rfl, hlc, hc63, _, hel⟩ := h
  obtain ⟨n, hn⟩ : ∃ n : Nat, (n : Int) = 1 + a1 % 64 := ⟨(1 + a1 % 64).toNat, by omega⟩
  have hm : 0 ≤ a1 % 64 ∧ a1 % 64 < 64 := by omega
  have hn1 : 1 ≤ n ∧ n ≤ 64 := by omega
  have HN := Lib.hid hn; clear hn
  have hlen : len ≤ 9223372036854775807 := by omega
  obtain ⟨ps, hps, hcell⟩ : ∃ ps : List (Int × ByteArray), ps.length = len ∧ ∀ i, i < len → ∃ b off, a = some ⟨b, off, none⟩ ∧ b < w.heap.size ∧ w.cell? ⟨b, off + i * 2, none⟩ = some (.int .i64 (ps.getD i (0, ByteArray.empty)).1) ∧ w.cell? ⟨b, off + i * 2 + 1, none⟩ = some (.string (ps.getD i (0, ByteArray.empty)).2) := by
    obtain ⟨f, hf⟩ := Go.Deep.choose_lt (n := len) (p := fun i (s : Int × ByteArray) => ∃ b off, a = some ⟨b, off, none⟩ ∧ b < w.heap.size ∧ w.cell? ⟨b, off + i * 2, none⟩ = some (.int .i64 s.1) ∧ w.cell? ⟨b, off + i * 2 + 1, none⟩ = some (.string s.2)) (fun i hi => by
      obtain ⟨b, off, cs, h1, h2, h3, h4, k, s, rfl⟩ := hel i hi
      exact ⟨(k, s), b, off, h1, h2, by simpa using h4 0 (by omega), h4 1 (by omega)⟩)
    refine ⟨(List.range len).map f, by simp, fun i hi => ?_⟩
    obtain ⟨b, off, h1, h2, h3, h4⟩ := hf i hi
    exact ⟨b, off, h1, h2, by rw [h3]; simp [hi], by rw [h4]; simp [hi]⟩
  have HR := Lib.hid hcell; have HS := Lib.hid hps; clear hcell hps hel hc63 hlc
  by_cases h100 : len ≤ 100
  · go_enter Try.func5, Try.ntmps5
    go_wp2_with fail
    refine (q_awake _).mono ?_
    rintro e w1 ⟨rfl, hb1⟩
    go_wp2_with fail
    rw [← HN.out]
    refine (QP.new_any n 0 _ (by omega) (by omega)).mono ?_
    rintro e w2 ⟨ba, ca, rfl, hA, hb2, hga, hgc⟩
    go_wp2_with fail
    refine (QI.new_any n 0 _ (by omega) (by omega)).mono ?_
    rintro e w3 ⟨bb, cb, rfl, hB, hb3, hgb, hgd⟩
    have hAlt := hA.lt
    have hBlt := hB.lt
    have hs1 := hb1.size
    have hs2 := hb2.size
    have hs3 := hb3.size
    have hA3 := hA.only (Only.ofBelow hb3 (fun _ => False)) (fun h => h) (fun h => h)
    have hb123 := hb1.trans ((hb2.mono hs1).trans (hb3.mono (by omega)))
    have hba := hA.1
    have hbb := hB.1
    clear hA hb2 hb3
    go_wp2
    go_loopw [10] (fun i wr => ∃ k : Nat, k ≤ len ∧ i = .int .i64 k ∧ QP.At wr ba ca n 0 ((ps.take (min k n)).map mkP) ∧ QI.At wr bb cb n 0 ((List.range (min k n)).map mkI) ∧ Only (fun k => k = ba ∨ k = ca ∨ k = bb ∨ k = cb) w3 wr) (fun i wr => len - (intOf i).toNat)
    case atStart => exact ⟨0, by omega, rfl, by simpa using hA3, by simpa using hB, Only.refl _ _⟩
    case round =>
      clear hA3 hB
      obtain ⟨k, hk, rfl, hA, hB, hO⟩ := hrel
      by_cases hlt : k < len
      · obtain ⟨bz, off, rfl, hbl, hc0, hc1⟩ := HR.out k hlt
        have hW := hb123.trans (hO.below (B := w.heap.size) (by omega) (by intro k hk; omega))
        have hd0 : wr.cell? ⟨bz, off + k * 2, none⟩ = some (.int .i64 (ps.getD k (0, ByteArray.empty)).1) := by rw [hW.cell hbl]; exact hc0
        have hd1 : wr.cell? ⟨bz, off + k * 2 + 1, none⟩ = some (.string (ps.getD k (0, ByteArray.empty)).2) := by rw [hW.cell hbl]; exact hc1
        have hki : (k : Int) < len := by omega
        have hsn : ps.take (k + 1) = ps.take k ++ [ps.getD k (0, ByteArray.empty)] := by
          rw [List.take_succ_eq_append_getElem (by rw [HS.out]; exact hlt), List.getD_eq_getElem?_getD, List.getElem?_eq_getElem (by rw [HS.out]; exact hlt)]; rfl
        clear hc0 hc1
        generalize ps.getD k (0, ByteArray.empty) = p at hd0 hd1 hsn
        obtain ⟨A, s⟩ := p
        have HNx := Lib.hid hsn; clear hsn
        by_cases hkn : k < n
        · have e1 : min k n = k := by omega
          have e2 : min (k + 1) n = k + 1 := by omega
          rw [e1] at hA hB
          have HE := Lib.hid e2; clear e1 e2
          go_wp2_with fail
          refine (QP.put_room A s ba ca n 0 _ _ hA (by rw [List.length_map, List.length_take]; omega) (by omega) (by omega)).mono ?_
          rintro e w4 ⟨rfl, hA4, hO4⟩
          have hB4 := hB.only hO4 (by omega) (by omega)
          have HA := Lib.hid hA4; clear hA4 hA hB
          go_wp2_with fail
          refine (QI.put_room _ bb cb n 0 _ _ hB4 (by rw [List.length_map, List.length_range]; omega) (by omega) (by omega)).mono ?_
          rintro e w5 ⟨rfl, hB5, hO5⟩
          have hA5 := HA.out.only hO5 (by omega) (by omega)
          have HH := Lib.hid (And.intro hA5 hB5); clear hA5 hB5
          go_wp2
          go_roundw
          case rel => exact ⟨k + 1, by omega, by go_num, by rw [HE.out, HNx.out, List.map_append]; exact HH.out.1, by rw [HE.out, List.range_succ, List.map_append]; exact HH.out.2, (hO.trans (hO4.mono (fun _ _ h => .inr (.inl h)))).trans (hO5.mono (fun _ _ h => .inr (.inr (.inr h))))⟩
          case measure => simp [intOf]; omega
        · have e1 : min k n = n := by omega
          have e2 : min (k + 1) n = n := by omega
          rw [e1] at hA hB
          have HE := Lib.hid e2; clear e1 e2
          go_wp2_with fail
          refine (QP.put_full A s ba ca n 0 _ _ hA (by rw [List.length_map, List.length_take, HS.out]; omega)).mono ?_
          rintro e w4 ⟨rfl, hA4, hO4⟩
          have hB4 := hB.only hO4 (fun h => h) (fun h => h)
          have HA := Lib.hid hA4; clear hA4 hA hB
          go_wp2_with fail
          refine (QI.put_full _ bb cb n 0 _ _ hB4 (by rw [List.length_map, List.length_range]; omega)).mono ?_
          rintro e w5 ⟨rfl, rfl⟩
          have HB := Lib.hid hB4; clear hB4
          go_wp2
          go_roundw
          case rel => exact ⟨k + 1, by omega, by go_num, by rw [HE.out]; exact HA.out, by rw [HE.out]; exact HB.out, hO.trans (hO4.mono (fun _ _ h => h.elim))⟩
          case measure => simp [intOf]; omega
      · obtain rfl : k = len := by omega
        obtain ⟨m, hm1⟩ : ∃ m, min k n = m := ⟨_, rfl⟩
        have hmk : m ≤ k := by omega
        have hmn : m ≤ n := by omega
        have hmq : ∀ j, j < m ↔ (j < k ∧ j < n) := by omega
        have HM := Lib.hid hmq; clear hmq
        rw [hm1] at hA hB
        clear hm1
        go_wp2
        go_loopw [15] (fun i wr => ∃ j : Nat, j ≤ m ∧ i = .int .i64 j ∧ QP.At wr ba ca n j (((ps.take m).drop j).map mkP) ∧ QI.At wr bb cb n j (((List.range m).drop j).map mkI) ∧ Only (fun k => k = ba ∨ k = ca ∨ k = bb ∨ k = cb) w3 wr) (fun i wr => m - (intOf i).toNat)
        case atStart => exact ⟨0, by omega, rfl, hA, hB, hO⟩
        case round =>
          clear hA hB hO
          obtain ⟨j, hj, rfl, hA, hB, hO⟩ := hrel
          by_cases hjm : j < m
          · obtain ⟨hjk, hjn⟩ := (HM.out j).1 hjm
            obtain ⟨bz, off, rfl, hbl, hc0, hc1⟩ := HR.out j hjk
            have hW := hb123.trans (hO.below (B := w.heap.size) (by omega) (by intro k hk; omega))
            have hd0 : wr.cell? ⟨bz, off + j * 2, none⟩ = some (.int .i64 (ps.getD j (0, ByteArray.empty)).1) := by rw [hW.cell hbl]; exact hc0
            have hd1 : wr.cell? ⟨bz, off + j * 2 + 1, none⟩ = some (.string (ps.getD j (0, ByteArray.empty)).2) := by rw [hW.cell hbl]; exact hc1
            clear hc0 hc1
            have hdp : ((ps.take m).drop j).map mkP = mkP (ps.getD j (0, ByteArray.empty)) :: ((ps.take m).drop (j + 1)).map mkP := by
              rw [List.drop_eq_getElem_cons (by rw [List.length_take, HS.out]; omega), List.getElem_take, List.getD_eq_getElem?_getD, List.getElem?_eq_getElem (by rw [HS.out]; exact hjk)]; rfl
            have hdi : ((List.range m).drop j).map mkI = mkI j :: ((List.range m).drop (j + 1)).map mkI := by
              rw [List.drop_eq_getElem_cons (by simpa using hjm)]; simp
            rw [hdp] at hA
            rw [hdi] at hB
            clear hdp hdi
            generalize ps.getD j (0, ByteArray.empty) = p at hd0 hd1 hA
            obtain ⟨A, s⟩ := p
            have hji : (j : Int) < k := by omega
            have hjni : decide ((j : Int) < n) = true := by simp; omega
            go_wp2_with fail
            refine (QP.take_some A s ba ca n j _ _ hA (by omega)).mono ?_
            rintro e w4 ⟨rfl, hA4, hO4⟩
            have hB4 := hB.only hO4 (by omega) (by omega)
            have hd40 : w4.cell? ⟨bz, off + j * 2, none⟩ = some (.int .i64 A) := by rw [cell_only hO4 (by show bz < _; have := hO.size; omega) (by show ¬ (bz = ba ∨ bz = ca); omega)]; exact hd0
            have hd41 : w4.cell? ⟨bz, off + j * 2 + 1, none⟩ = some (.string s) := by rw [cell_only hO4 (by show bz < _; have := hO.size; omega) (by show ¬ (bz = ba ∨ bz = ca); omega)]; exact hd1
            have HA := Lib.hid hA4; clear hA4 hA hB hd0 hd1
            have hO4b := ((Only.refl (fun _ => False) w4).alloc (.cells #[.int .i64 A, .string s] 37))
            have hx0 : (w4.alloc (.cells #[.int .i64 A, .string s] 37)).cell? ⟨w4.heap.size, 0, none⟩ = some (.int .i64 A) := World.cell?_alloc_mark _ _ _ _ _
            have hx1 : (w4.alloc (.cells #[.int .i64 A, .string s] 37)).cell? ⟨w4.heap.size, 1, none⟩ = some (.string s) := World.cell?_alloc_mark _ _ _ _ _
            have hsz4 := hO4.size
            have hszO := hO.size
            go_wp2_with fail
            refine (QI.take_some (mkI j) bb cb n j _ _ (hB4.only hO4b (fun h => h) (fun h => h)) (by omega)).mono ?_
            rintro e w5 ⟨rfl, hB5, hO5⟩
            have hx05 : w5.cell? ⟨w4.heap.size, 0, none⟩ = some (.int .i64 A) := by rw [cell_only hO5 (by simp) (by simp; omega)]; exact hx0
            have hx15 : w5.cell? ⟨w4.heap.size, 1, none⟩ = some (.string s) := by rw [cell_only hO5 (by simp) (by simp; omega)]; exact hx1
            have hO45 := (hO4b.mono (T := fun k => k = bb ∨ k = cb) (fun _ _ h => h.elim)).trans hO5
            have hd50 : w5.cell? ⟨bz, off + j * 2, none⟩ = some (.int .i64 A) := by rw [cell_only hO45 (by show bz < _; omega) (by show ¬ (bz = bb ∨ bz = cb); omega)]; exact hd40
            have hd51 : w5.cell? ⟨bz, off + j * 2 + 1, none⟩ = some (.string s) := by rw [cell_only hO45 (by show bz < _; omega) (by show ¬ (bz = bb ∨ bz = cb); omega)]; exact hd41
            have hA5 := HA.out.only hO45 (by omega) (by omega)
            have HH := Lib.hid (And.intro hA5 hB5)
            have hO6 := (hO.trans (hO4.mono (T := fun k => k = ba ∨ k = ca ∨ k = bb ∨ k = cb) (fun _ _ h => by rcases h with h | h; exact .inl h; exact .inr (.inl h)))).trans (hO45.mono (fun _ _ h => .inr (.inr h)))
            have hO7 := Lib.hid hO6
            clear hA5 hB5 hO45 hd40 hd41 hx0 hx1 hO4b hO6
            unfold mkI
            go_wp2_with fail
            go_quiet (fail)
            go_wp2
            go_roundw
            case rel => exact ⟨j + 1, by omega, by go_num, HH.out.1, HH.out.2, hO7.out.drewN _⟩
            case measure => simp [intOf]; omega
          · obtain rfl : j = m := by omega
            have hq : ¬ (j < k ∧ j < n) := fun h => by have := (HM.out j).2 h; omega
            have hAe : QP.At wr ba ca n j [] := by have := hA; rw [List.drop_eq_nil_of_le (by rw [List.length_take]; omega)] at this; exact this
            have hBe : QI.At wr bb cb n j [] := by have := hB; rw [List.drop_eq_nil_of_le (by simp)] at this; exact this
            have HAe := Lib.hid hAe; have HBe := Lib.hid hBe; clear hA hB hAe hBe
            by_cases hjk : j < k <;> by_cases hjn : j < n
            all_goals first | (exfalso; omega) | skip
            all_goals
              clear hq
              go_wp2_with fail
              refine (QP.len_any _ _ _ _ _ _ HAe.out).mono ?_
              rintro e w4 ⟨rfl, rfl⟩
              rw [show ((([] : List Value).length : Nat) : Int) = 0 from rfl]
              go_wp2_with fail
              refine (QI.len_any _ _ _ _ _ _ HBe.out).mono ?_
              rintro e w4 ⟨rfl, rfl⟩
              rw [show ((([] : List Value).length : Nat) : Int) = 0 from rfl]
              go_wp2
              go_ret
              exact ⟨rfl, hb123.trans (hO.below (by omega) (by intro k hk; omega))⟩
  · go_enter Try.func5, Try.ntmps5
    go_wp2_with fail
    refine (q_awake _).mono ?_
    rintro e w1 ⟨rfl, hb1⟩
    go_wp2_with fail
    refine (q_awake _).mono ?_
    rintro e w2 ⟨rfl, hb2⟩
    go_wp2
    go_ret
    exact ⟨rfl, hb1.trans (hb2.mono hb1.size)⟩

theorem queueTypes (v : Value) (a1 : Int) (w : World) {H : Type} {enc : TypeId × Value → H} {d : DataW H} {p : List MemPlace} {base : Nat}
    (h : DataW.Trod enc Try.prog w 0 (fun _ => true) true 32 v d p) (hv : Value.okWide Try.prog w .any base 32 v) (w1 : (Lit.int .u8 a1).wf = true) :
    Calls Try.prog 5 #[v, .int .u8 a1] w fun e w' => e = .returned (.bool true) ∧ Below w.heap.size w w' := by
  obtain ⟨len, hel⟩ := pairs_of_trod (okWide_slice Try.underlying32 hv) h
  exact queueTypes0 v len a1 w hel (u8_bd w1)
end Go.Proofs.Ytalikihdckknoaa
