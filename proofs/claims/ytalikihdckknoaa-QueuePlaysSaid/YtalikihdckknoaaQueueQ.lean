/- columbarylaw04.QueuePlays: the walk. -/
import Derived.Test.YtalikihdckknoaaActs
import Derived.Test.YtalikihdckknoaaCut
import Derived.Test.YtalikihdckknoaaQueueN
namespace Go.Proofs.Ytalikihdckknoaa
open Go Go.RowKit Go.WideShapes
set_option linter.unusedVariables false
set_option linter.unusedSimpArgs false

theorem infoS : (Try.prog.info? 9).map (fun i => (i.zero, i.size, i.bytes)) = some (some (.string ⟨#[]⟩), 1, 16) := by kernel_rfl
theorem sizeS : (Try.prog.info? 9).map (·.size) = some 1 := by kernel_rfl

set_option maxRecDepth 100000 in
set_option maxHeartbeats 6000000 in
theorem plays_no (most gone : Int) (v : Value) (w : World) (b1 : 0 ≤ gone ∧ gone ≤ 4294967295) (h : most < 1 ∨ 64 < most) :
    Calls Try.prog 8 #[.int .i64 most, .int .u32 gone, v] w fun e w' => e = .returned (.bool true) ∧ Below w.heap.size w w' := by
  have HC := Lib.hid (fun g W => QS.new_no most g W h)
  by_cases h1 : most < 1 <;> by_cases h2 : 64 < most
  all_goals first | (exfalso; omega) | skip
  all_goals
    clear h
    go_enter Try.func8, Try.ntmps8
    go_wp2_with fail
    refine (q_awake _).mono ?_
    rintro e w1 ⟨rfl, hb⟩
    go_wp2_with fail
    refine (HC.out _ _).mono ?_
    rintro e w2 ⟨rfl, rfl⟩
    go_wp2
    go_ret
    exact ⟨rfl, hb⟩

set_option maxRecDepth 100000 in
set_option maxHeartbeats 6000000 in
theorem plays_yes (m : Nat) (gone : Int) (v : Value) (len : Nat) (w : World) (hm1 : 1 ≤ m) (hm2 : m ≤ 64) (b1 : 0 ≤ gone ∧ gone ≤ 4294967295) (h : Elems w w.heap.size 3 IsAct v len) :
    Calls Try.prog 8 #[.int .i64 m, .int .u32 gone, v] w fun e w' => e = .returned (.bool true) ∧ Below w.heap.size w w' := by
  obtain ⟨a, cap, rfl, hlc, hc63, _, hel⟩ := h
  have hlen : len ≤ 9223372036854775807 := by omega
  obtain ⟨g0, rfl⟩ : ∃ g0 : Nat, gone = g0 := ⟨gone.toNat, by omega⟩
  have HE := Lib.hid hel; clear hel hc63 hlc
  go_enter Try.func8, Try.ntmps8
  go_wp2_with fail
  refine (q_awake _).mono ?_
  rintro e w1 ⟨rfl, hb1⟩
  go_wp2_with fail
  refine (QS.new_any m g0 _ (by omega) (by omega)).mono ?_
  rintro e w2 ⟨b, c, rfl, hA, hb2, hgb, hgc⟩
  have hb12 := hb1.trans (hb2.mono hb1.size)
  have hs1 := hb1.size
  have hs2 := hb2.size
  have hbc := hA.lt
  go_wp2
  go_loopw [9, 10, 11] (fun l n i wr => ∃ (k g : Nat) (ls : List ByteArray), k ≤ len ∧ k ≤ 150 ∧ i = .int .i64 k ∧ n = .int .u64 g ∧ g ≤ 4294967295 + 64 * k ∧ ls.length ≤ m ∧ QS.At wr b c m g (ls.map Value.string) ∧ Row wr w2.heap.size 9 1 l ls.length (ls.map Value.string) ∧ Only (fun k => k = b ∨ k = c) w2 wr) (fun l n i wr => 150 - (intOf i).toNat)
  case atStart => exact ⟨0, g0, [], by omega, by omega, rfl, rfl, by omega, by simp, hA, Row.nil _ _ _ _, Only.refl _ _⟩
  case round =>
    obtain ⟨k, g, ls, hk1, hk2, rfl, rfl, hg, hls, hA, hrow, hO⟩ := hrel
    by_cases hlt : k < len ∧ k < 150
    · obtain ⟨hl1, hl2⟩ := hlt
      obtain ⟨bz, off, cs, rfl, hbl, _, hcs, kd, s, nn, rfl, hk1', hk2', hn1, hn2, hss⟩ := HE.out k hl1
      have hB := hb12.trans (hO.below (B := w.heap.size) (by omega) (by intro k hk; omega))
      have hc0 : wr.cell? ⟨bz, off + k * 3, none⟩ = some (.int .u8 kd) := by rw [hB.cell hbl]; exact hcs 0 (by omega)
      have hc1 : wr.cell? ⟨bz, off + k * 3 + 1, none⟩ = some (.string s) := by rw [hB.cell hbl]; exact hcs 1 (by omega)
      have hc2 : wr.cell? ⟨bz, off + k * 3 + 2, none⟩ = some (.int .u8 nn) := by rw [hB.cell hbl]; exact hcs 2 (by omega)
      have hd2 : decide ((k : Int) < 150) = true := by simp; omega
      have hki : (k : Int) < len := by omega
      clear hcs
      obtain ⟨al, capl, hlv, _, hcapl, hcells⟩ := hrow.slice
      subst hlv
      have HCl := Lib.hid hcells
      have HA := Lib.hid hA; have HRow := Lib.hid hrow; have HO := Lib.hid hO; clear hA hrow hO hcells hcapl
      have hoa := (Only.refl (fun _ => False) wr).alloc (.cells #[.int .u8 kd, .string s, .int .u8 nn] 68)
      have HAa := Lib.hid (HA.out.only hoa (fun h => h) (fun h => h))
      have HRowa := Lib.hid (HRow.out.only hoa (fun _ _ _ h => h))
      have HOa := Lib.hid (HO.out.trans (hoa.mono (fun _ _ h => h.elim)))
      clear hoa
      by_cases hkd : kd % 7 < 4
      · by_cases hf : m ≤ ls.length
        · as_aux_lemma =>
          have hfi : (m : Int) ≤ ls.length := by omega
          go_wp2_with fail
          refine (QS.put_full _ b c m g _ _ HAa.out (by rw [List.length_map]; exact hf)).mono ?_
          rintro e w3 ⟨rfl, rfl⟩
          have HH := Lib.hid (And.intro HAa.out (And.intro HRowa.out HOa.out))
          have hgi : (g : Int) ≤ 8589934592 := by omega
          go_wp2_with fail
          refine (QS.all_any b c m g ls _ HH.out.1 (by omega) (by omega) HH.out.1.lt.1 HH.out.1.lt.2).mono ?_
          rintro e w6 ⟨v6, rfl, hA6, hown, hO6⟩
          have hr6 := (Row.of_own hown).mono (B := w2.heap.size) HH.out.2.2.size
          obtain ⟨a6, cap6, rfl, _, _, hc6⟩ := hr6.slice
          have hO7 := hO6
          have hrl := HH.out.2.1.only hO7 (by intro k hk _ e; omega)
          obtain ⟨_, _, hlv, _, _, hcl⟩ := hrl.slice
          cases hlv
          have HC6 := Lib.hid hc6; have HCL := Lib.hid hcl; have HA6 := Lib.hid hA6; have HRL := Lib.hid hrl; have HO7 := Lib.hid hO7
          clear hc6 hcl hA6 hrl hO7 hO6 hr6 hown
          go_wp2_with fail
          refine (QS.len_any b c m g _ _ HA6.out).mono ?_
          rintro e w7 ⟨rfl, rfl⟩
          rw [List.length_map]
          go_wp2_with fail
          refine (QS.gone_any b c m g _ _ HA6.out).mono ?_
          rintro e w7 ⟨rfl, rfl⟩
          go_wp2
          go_loopw [23] (fun j wx => ∃ q : Nat, q ≤ ls.length ∧ j = .int .i64 q ∧ Only (fun _ => False) w6 wx) (fun j wx => ls.length - (intOf j).toNat)
          case atStart => exact ⟨0, by omega, rfl, Only.refl _ _⟩
          case round =>
            obtain ⟨q, hq, rfl, hO8⟩ := hrel
            by_cases hql : q < ls.length
            · obtain ⟨ga, oa, rfl, hga1, hga2, hcella⟩ := HC6.out q hql
              obtain ⟨gb, ob, rfl, hgb1, hgb2, hcellb⟩ := HCL.out q hql
              have hx : (ls.map Value.string)[q * 1 + 0]? = some (.string (ls.getD q ByteArray.empty)) := by
                rw [List.getElem?_map, Nat.mul_one, Nat.add_zero, List.getElem?_eq_getElem hql, List.getD_eq_getElem?_getD, List.getElem?_eq_getElem hql]; rfl
              have hca : wr.cell? ⟨ga, oa + q, none⟩ = some (.string (ls.getD q ByteArray.empty)) := by
                rw [cell_only hO8 hga2 (fun h => h)]; have := (hcella 0 (by omega)).1; rw [hx] at this; simpa using this
              have hcb : wr.cell? ⟨gb, ob + q, none⟩ = some (.string (ls.getD q ByteArray.empty)) := by
                rw [cell_only hO8 hgb2 (fun h => h)]; have := (hcellb 0 (by omega)).1; rw [hx] at this; simpa using this
              clear hcella hcellb hx
              generalize ls.getD q ByteArray.empty = sq0 at hca hcb
              have hqi : (q : Int) < ls.length := by omega
              go_wp2
              go_quiet (fail)
              go_wp2
              go_roundw
              case rel => exact ⟨q + 1, by omega, by go_num, hO8.drewN _⟩
              case measure => simp [intOf]; omega
            · obtain rfl : q = ls.length := by omega
              go_wp2
              go_roundw
              case rel => exact ⟨k + 1, g, ls, by omega, by omega, by go_num, rfl, by omega, by omega, HA6.out.only hO8 (fun h => h) (fun h => h), HRL.out.only hO8 (fun _ _ _ h => h), (HH.out.2.2.trans (HO7.out.mono (fun _ _ h => .inr h))).trans (hO8.mono (fun _ _ h => h.elim))⟩
              case measure => simp [intOf]; omega
        · as_aux_lemma =>
          have hfi : (ls.length : Int) < m := by omega
          obtain ⟨i0, hi, hz0, hz1, hz2⟩ := info_parts infoS
          have HI := Lib.hid (And.intro hi (And.intro hz0 (And.intro hz1 hz2))); clear hi hz0 hz1 hz2
          go_wp2_with fail
          refine (QS.put_room _ b c m g _ _ HAa.out (by rw [List.length_map]; omega) (by omega) (by omega)).mono ?_
          rintro e w3 ⟨rfl, hA3, hO3⟩
          rw [List.length_map]
          have hx1 : w3.cell? ⟨wr.heap.size, 1, none⟩ = some (.string s) := by
            rw [cell_only hO3 (by simp) (by have := HO.out.size; simp; omega)]; exact World.cell?_alloc_mark _ _ _ _ _
          have hO3' := ((Only.refl (fun k => k = c) wr).alloc _).trans hO3
          have hr3 := HRow.out.only hO3' (by intro k hk _ e; omega)
          have hsz := HO.out.size
          have hsz3 := hO3'.size
          have hms : ls.length ≤ 64 := by omega
          have HA3 := Lib.hid hA3; have HO3 := Lib.hid hO3'; clear hA3 hO3 hO3'
          go_wp2_with (at_builtin; refine wpList_append_row _ rfl _ _ 66 rfl w2.heap.size 9 i0 (.string ⟨#[]⟩) 1 16 Try.underlying66 HI.out.1 HI.out.2.1 HI.out.2.2.1 HI.out.2.2.2 rfl (by decide) _ _ _ rfl (hr3.only ((Only.refl (fun _ => False) _).alloc _) (fun _ _ _ h => h)) ⟨w3.heap.size, 0, none⟩ 1 1 [.string s] rfl rfl ?c1 ?c2 ?c3 ?c4 ?c5 ?_)
          case c1 => exact cell_one_new _ _ _
          case c2 => intro u hu; simp at hu; subst hu; rfl
          case c3 => unfold maxLen; omega
          case c4 => omega
          case c5 => simp; omega
          intro v' w4 hrow4 hO4 _ hblk
          have hO5 := ((Only.refl (fun k => (Value.slice al ls.length capl).ownBlock = some k) w3).alloc (.cells #[.string s] 9)).trans hO4
          have hb3 : ∀ k, (Value.slice al ls.length capl).ownBlock = some k → w2.heap.size ≤ k := fun k hk => (HRow.out.ge hk).1
          have hA5 := HA3.out.only hO5 (fun h => by have := hb3 _ h; omega) (fun h => by have := hb3 _ h; omega)
          have hO6 := ((HO.out.trans (HO3.out.mono (fun _ _ h => .inr h))).trans' hO5 (by intro i hi h; have := hb3 _ h; omega))
          obtain ⟨al2, cl2, hv2, _⟩ := hrow4.slice
          subst hv2
          have hrow5 : Row w4 w2.heap.size 9 1 (.slice al2 (ls ++ [s]).length cl2) (ls ++ [s]).length ((ls ++ [s]).map Value.string) := by
            rw [List.map_append, List.length_append]; exact hrow4
          have HH := Lib.hid (And.intro (show QS.At w4 b c m g ((ls ++ [s]).map Value.string) by rw [List.map_append]; exact hA5) (And.intro hrow5 hO6))
          clear hr3 hrow4 hrow5 hO4 hO5 hA5 hO6 hblk hb3 HA3 HO3
          rw [show (ls.length + 1) = (ls ++ [s]).length from by simp]
          generalize hlz : ls ++ [s] = lz at HH ⊢
          have hlz2 : lz.length ≤ m := by rw [← hlz]; simp; omega
          have hlz3 := Lib.hid (show (lz.length : Int) = ls.length + 1 by rw [← hlz]; simp)
          clear hlz
          have hq1 : ((g : Int) + ls.length + 1 != (g : Int) + lz.length) = false := by rw [hlz3.out]; simp; omega
          have hq2 : ((g : Int) + ls.length + 1 == (g : Int) + lz.length) = true := by rw [hlz3.out]; simp; omega
          clear hlz3
          have hgi : (g : Int) ≤ 8589934592 := by omega
          have hlz4 : lz.length ≤ 64 := by omega
          go_wp2_with fail
          refine (QS.all_any b c m g lz _ HH.out.1 (by omega) (by omega) HH.out.1.lt.1 HH.out.1.lt.2).mono ?_
          rintro e w6 ⟨v6, rfl, hA6, hown, hO6⟩
          have hr6 := (Row.of_own hown).mono (B := w2.heap.size) HH.out.2.2.size
          obtain ⟨a6, cap6, rfl, _, _, hc6⟩ := hr6.slice
          have hO7 := hO6
          have hrl := HH.out.2.1.only hO7 (by intro k hk _ e; omega)
          obtain ⟨_, _, hlv, _, _, hcl⟩ := hrl.slice
          cases hlv
          have HC6 := Lib.hid hc6; have HCL := Lib.hid hcl; have HA6 := Lib.hid hA6; have HRL := Lib.hid hrl; have HO7 := Lib.hid hO7
          clear hc6 hcl hA6 hrl hO7 hO6 hr6 hown
          go_wp2_with fail
          refine (QS.len_any b c m g _ _ HA6.out).mono ?_
          rintro e w7 ⟨rfl, rfl⟩
          rw [List.length_map]
          go_wp2_with fail
          refine (QS.gone_any b c m g _ _ HA6.out).mono ?_
          rintro e w7 ⟨rfl, rfl⟩
          go_wp2
          go_loopw [23] (fun j wx => ∃ q : Nat, q ≤ lz.length ∧ j = .int .i64 q ∧ Only (fun _ => False) w6 wx) (fun j wx => lz.length - (intOf j).toNat)
          case atStart => exact ⟨0, by omega, rfl, Only.refl _ _⟩
          case round =>
            obtain ⟨q, hq, rfl, hO8⟩ := hrel
            by_cases hql : q < lz.length
            · obtain ⟨ga, oa, rfl, hga1, hga2, hcella⟩ := HC6.out q hql
              obtain ⟨gb, ob, rfl, hgb1, hgb2, hcellb⟩ := HCL.out q hql
              have hx : (lz.map Value.string)[q * 1 + 0]? = some (.string (lz.getD q ByteArray.empty)) := by
                rw [List.getElem?_map, Nat.mul_one, Nat.add_zero, List.getElem?_eq_getElem hql, List.getD_eq_getElem?_getD, List.getElem?_eq_getElem hql]; rfl
              have hca : wr.cell? ⟨ga, oa + q, none⟩ = some (.string (lz.getD q ByteArray.empty)) := by
                rw [cell_only hO8 hga2 (fun h => h)]; have := (hcella 0 (by omega)).1; rw [hx] at this; simpa using this
              have hcb : wr.cell? ⟨gb, ob + q, none⟩ = some (.string (lz.getD q ByteArray.empty)) := by
                rw [cell_only hO8 hgb2 (fun h => h)]; have := (hcellb 0 (by omega)).1; rw [hx] at this; simpa using this
              clear hcella hcellb hx
              generalize lz.getD q ByteArray.empty = sq0 at hca hcb
              have hqi : (q : Int) < lz.length := by omega
              go_wp2
              go_quiet (fail)
              go_wp2
              go_roundw
              case rel => exact ⟨q + 1, by omega, by go_num, hO8.drewN _⟩
              case measure => simp [intOf]; omega
            · obtain rfl : q = lz.length := by omega
              go_wp2
              go_roundw
              case rel => exact ⟨k + 1, g, lz, by omega, by omega, by go_num, rfl, by omega, by omega, HA6.out.only hO8 (fun h => h) (fun h => h), HRL.out.only hO8 (fun _ _ _ h => h), (HH.out.2.2.trans (HO7.out.mono (fun _ _ h => .inr h))).trans (hO8.mono (fun _ _ h => h.elim))⟩
              case measure => simp [intOf]; omega
      · by_cases hkd6 : kd % 7 < 6
        · by_cases hl0 : ls.length = 0
          · as_aux_lemma =>
            have hnil : ls = [] := List.eq_nil_of_length_eq_zero hl0
            have HAn : Hid (QS.At _ b c m g []) := Lib.hid (by have := HAa.out; rw [hnil] at this; exact this)
            have hq1 : ((ls.length : Int) == 0) = true := by simp [hl0]
            clear hnil hl0
            go_wp2_with fail
            refine (QS.take_none b c m g _ HAn.out).mono ?_
            rintro e w3 ⟨rfl, rfl⟩
            have HH := Lib.hid (And.intro HAa.out (And.intro HRowa.out HOa.out))
            have hgi : (g : Int) ≤ 8589934592 := by omega
            go_wp2_with fail
            refine (QS.all_any b c m g ls _ HH.out.1 (by omega) (by omega) HH.out.1.lt.1 HH.out.1.lt.2).mono ?_
            rintro e w6 ⟨v6, rfl, hA6, hown, hO6⟩
            have hr6 := (Row.of_own hown).mono (B := w2.heap.size) HH.out.2.2.size
            obtain ⟨a6, cap6, rfl, _, _, hc6⟩ := hr6.slice
            have hO7 := hO6
            have hrl := HH.out.2.1.only hO7 (by intro k hk _ e; omega)
            obtain ⟨_, _, hlv, _, _, hcl⟩ := hrl.slice
            cases hlv
            have HC6 := Lib.hid hc6; have HCL := Lib.hid hcl; have HA6 := Lib.hid hA6; have HRL := Lib.hid hrl; have HO7 := Lib.hid hO7
            clear hc6 hcl hA6 hrl hO7 hO6 hr6 hown
            go_wp2_with fail
            refine (QS.len_any b c m g _ _ HA6.out).mono ?_
            rintro e w7 ⟨rfl, rfl⟩
            rw [List.length_map]
            go_wp2_with fail
            refine (QS.gone_any b c m g _ _ HA6.out).mono ?_
            rintro e w7 ⟨rfl, rfl⟩
            go_wp2
            go_loopw [23] (fun j wx => ∃ q : Nat, q ≤ ls.length ∧ j = .int .i64 q ∧ Only (fun _ => False) w6 wx) (fun j wx => ls.length - (intOf j).toNat)
            case atStart => exact ⟨0, by omega, rfl, Only.refl _ _⟩
            case round =>
              obtain ⟨q, hq, rfl, hO8⟩ := hrel
              by_cases hql : q < ls.length
              · obtain ⟨ga, oa, rfl, hga1, hga2, hcella⟩ := HC6.out q hql
                obtain ⟨gb, ob, rfl, hgb1, hgb2, hcellb⟩ := HCL.out q hql
                have hx : (ls.map Value.string)[q * 1 + 0]? = some (.string (ls.getD q ByteArray.empty)) := by
                  rw [List.getElem?_map, Nat.mul_one, Nat.add_zero, List.getElem?_eq_getElem hql, List.getD_eq_getElem?_getD, List.getElem?_eq_getElem hql]; rfl
                have hca : wr.cell? ⟨ga, oa + q, none⟩ = some (.string (ls.getD q ByteArray.empty)) := by
                  rw [cell_only hO8 hga2 (fun h => h)]; have := (hcella 0 (by omega)).1; rw [hx] at this; simpa using this
                have hcb : wr.cell? ⟨gb, ob + q, none⟩ = some (.string (ls.getD q ByteArray.empty)) := by
                  rw [cell_only hO8 hgb2 (fun h => h)]; have := (hcellb 0 (by omega)).1; rw [hx] at this; simpa using this
                clear hcella hcellb hx
                generalize ls.getD q ByteArray.empty = sq0 at hca hcb
                have hqi : (q : Int) < ls.length := by omega
                go_wp2
                go_quiet (fail)
                go_wp2
                go_roundw
                case rel => exact ⟨q + 1, by omega, by go_num, hO8.drewN _⟩
                case measure => simp [intOf]; omega
              · obtain rfl : q = ls.length := by omega
                go_wp2
                go_roundw
                case rel => exact ⟨k + 1, g, ls, by omega, by omega, by go_num, rfl, by omega, by omega, HA6.out.only hO8 (fun h => h) (fun h => h), HRL.out.only hO8 (fun _ _ _ h => h), (HH.out.2.2.trans (HO7.out.mono (fun _ _ h => .inr h))).trans (hO8.mono (fun _ _ h => h.elim))⟩
                case measure => simp [intOf]; omega
          · as_aux_lemma =>
            obtain ⟨s0, lt, rfl⟩ : ∃ s0 lt, ls = s0 :: lt := by
              cases ls with
              | nil => simp at hl0
              | cons x y => exact ⟨x, y, rfl⟩
            have hltm : lt.length ≤ m := by simp at hls; omega
            clear hl0
            have hgi : (g : Int) ≤ 8589934591 := by omega
            have hlt64 : lt.length ≤ 63 := by simp at hls; omega
            obtain ⟨v2, hsl, hrow2, hblk2⟩ := Row.cutL (P := Try.prog) (t := 66) (n := lt.length + 1) (xs := (s0 :: lt).map Value.string) HRowa.out Try.underlying66 sizeS .i64 1 (by omega)
            rw [show ((1 : Nat) : Int) = 1 from rfl] at hsl
            rw [show lt.length + 1 - 1 = lt.length from rfl, show ((s0 :: lt).map Value.string).drop (1 * 1) = lt.map Value.string from rfl] at hrow2
            obtain ⟨al2, cl2, hv2, _⟩ := hrow2.slice
            subst hv2
            have hc0a : ∃ gb ob, al = some ⟨gb, ob, none⟩ ∧ w2.heap.size ≤ gb ∧ gb < wr.heap.size ∧ wr.cell? ⟨gb, ob, none⟩ = some (.string s0) := by
              obtain ⟨gb, ob, h1, h2, h3, h4⟩ := HCl.out 0 (by simp)
              exact ⟨gb, ob, h1, h2, h3, by have := (h4 0 (by omega)).1; simpa using this⟩
            obtain ⟨gb, ob, hal, hgb1, hgb2, hcb⟩ := hc0a
            have HB2 := Lib.hid hblk2; have HR2 := Lib.hid hrow2; clear hblk2 hrow2
            subst hal
            go_wp2_with fail
            refine (QS.take_some (.string s0) b c m g (lt.map Value.string) _ HAa.out (by omega)).mono ?_
            rintro e w3 ⟨rfl, hA3, hO3⟩
            have hcb3 : w3.cell? ⟨gb, ob, none⟩ = some (.string s0) := by
              rw [cell_only hO3 (by simp; omega) (by simp; omega)]; rw [cell_only ((Only.refl (fun _ => False) wr).alloc _) hgb2 (fun h => h)]; exact hcb
            clear hcb
            have hr3 := HR2.out.only hO3 (by intro k hk _ e; omega)
            have HH := Lib.hid (And.intro hA3 (And.intro hr3 (HOa.out.trans hO3)))
            clear hA3 hr3 hO3
            have hseq : (s0.toList == s0.toList) = true := by simp
            go_wp2_with fail
            refine (QS.all_any b c m (g + 1) lt _ HH.out.1 (by omega) (by omega) HH.out.1.lt.1 HH.out.1.lt.2).mono ?_
            rintro e w6 ⟨v6, rfl, hA6, hown, hO6⟩
            have hr6 := (Row.of_own hown).mono (B := w2.heap.size) HH.out.2.2.size
            obtain ⟨a6, cap6, rfl, _, _, hc6⟩ := hr6.slice
            have hO7 := hO6
            have hrl := HH.out.2.1.only hO7 (by intro k hk _ e; omega)
            obtain ⟨_, _, hlv, _, _, hcl⟩ := hrl.slice
            cases hlv
            have HC6 := Lib.hid hc6; have HCL := Lib.hid hcl; have HA6 := Lib.hid hA6; have HRL := Lib.hid hrl; have HO7 := Lib.hid hO7
            clear hc6 hcl hA6 hrl hO7 hO6 hr6 hown
            go_wp2_with fail
            refine (QS.len_any b c m (g + 1) _ _ HA6.out).mono ?_
            rintro e w7 ⟨rfl, rfl⟩
            rw [List.length_map]
            go_wp2_with fail
            refine (QS.gone_any b c m (g + 1) _ _ HA6.out).mono ?_
            rintro e w7 ⟨rfl, rfl⟩
            go_wp2
            go_loopw [23] (fun j wx => ∃ q : Nat, q ≤ lt.length ∧ j = .int .i64 q ∧ Only (fun _ => False) w6 wx) (fun j wx => lt.length - (intOf j).toNat)
            case atStart => exact ⟨0, by omega, rfl, Only.refl _ _⟩
            case round =>
              obtain ⟨q, hq, rfl, hO8⟩ := hrel
              by_cases hql : q < lt.length
              · obtain ⟨ga, oa, rfl, hga1, hga2, hcella⟩ := HC6.out q hql
                obtain ⟨gb, ob, rfl, hgb1, hgb2, hcellb⟩ := HCL.out q hql
                have hx : (lt.map Value.string)[q * 1 + 0]? = some (.string (lt.getD q ByteArray.empty)) := by
                  rw [List.getElem?_map, Nat.mul_one, Nat.add_zero, List.getElem?_eq_getElem hql, List.getD_eq_getElem?_getD, List.getElem?_eq_getElem hql]; rfl
                have hca : wr.cell? ⟨ga, oa + q, none⟩ = some (.string (lt.getD q ByteArray.empty)) := by
                  rw [cell_only hO8 hga2 (fun h => h)]; have := (hcella 0 (by omega)).1; rw [hx] at this; simpa using this
                have hcb : wr.cell? ⟨gb, ob + q, none⟩ = some (.string (lt.getD q ByteArray.empty)) := by
                  rw [cell_only hO8 hgb2 (fun h => h)]; have := (hcellb 0 (by omega)).1; rw [hx] at this; simpa using this
                clear hcella hcellb hx
                generalize lt.getD q ByteArray.empty = sq0 at hca hcb
                have hqi : (q : Int) < lt.length := by omega
                go_wp2
                go_quiet (fail)
                go_wp2
                go_roundw
                case rel => exact ⟨q + 1, by omega, by go_num, hO8.drewN _⟩
                case measure => simp [intOf]; omega
              · obtain rfl : q = lt.length := by omega
                go_wp2
                go_roundw
                case rel => exact ⟨k + 1, (g + 1), lt, by omega, by omega, by go_num, rfl, by omega, by omega, HA6.out.only hO8 (fun h => h) (fun h => h), HRL.out.only hO8 (fun _ _ _ h => h), (HH.out.2.2.trans (HO7.out.mono (fun _ _ h => .inr h))).trans (hO8.mono (fun _ _ h => h.elim))⟩
                case measure => simp [intOf]; omega
        · obtain ⟨N, rfl⟩ : ∃ N : Nat, nn = N := ⟨nn.toNat, by omega⟩
          have hgi : (g : Int) ≤ 8589934400 := by omega
          have hls64 : ls.length ≤ 64 := by omega
          have hxN : (wr.alloc (.cells #[.int .u8 kd, .string s, .int .u8 N] 68)).cell? ⟨wr.heap.size, 2, none⟩ = some (.int .u8 N) := World.cell?_alloc_mark _ _ _ _ _
          by_cases h9 : N % 9 = 0 ∧ N ≤ g
          · as_aux_lemma =>
            obtain ⟨h91, h92⟩ := h9
            have hq9 : ((N : Int) % 9 == 0) = true := by simp; omega
            have h92i : (N : Int) ≤ g := by omega
            obtain ⟨v2, hsl, hrow2, hblk2⟩ := Row.cutL (P := Try.prog) (t := 66) HRowa.out Try.underlying66 sizeS .i64 0 (Nat.zero_le _)
            rw [show ((0 : Nat) : Int) = 0 from rfl] at hsl
            rw [Nat.sub_zero, Nat.zero_mul, List.drop_zero] at hrow2
            obtain ⟨al2, cl2, hv2, _⟩ := hrow2.slice
            subst hv2
            have HR2 := Lib.hid hrow2; clear hrow2 hblk2
            clear h91
            have hNi : (N : Int) % 70 < 70 := by omega
            have hNi0 : 0 ≤ (N : Int) % 70 := by omega
            go_wp2_with fail
            refine (QS.drop_ok b c m g _ _ _ HAa.out (by rw [List.length_map]; exact hls64) (by omega) (by omega) (by omega)).mono ?_
            rintro e w3 ⟨rfl, hA3, hO3⟩
            have hd0 : ((g : Int) - N - g).toNat = 0 := by omega
            simp only [hd0, Nat.add_zero, List.drop_zero] at hA3 ⊢
            have hr3 := HR2.out.only hO3 (by intro k hk _ e; omega)
            have HH := Lib.hid (And.intro hA3 (And.intro hr3 (HOa.out.trans hO3)))
            have hxN3 : w3.cell? ⟨wr.heap.size, 2, none⟩ = some (.int .u8 N) := by
              rw [cell_only hO3 (by simp) (by have := HO.out.size; simp; omega)]; exact hxN
            clear hA3 hr3 hO3 hd0 hxN
            go_wp2_with fail
            refine (QS.all_any b c m g ls _ HH.out.1 (by omega) (by omega) HH.out.1.lt.1 HH.out.1.lt.2).mono ?_
            rintro e w6 ⟨v6, rfl, hA6, hown, hO6⟩
            have hr6 := (Row.of_own hown).mono (B := w2.heap.size) HH.out.2.2.size
            obtain ⟨a6, cap6, rfl, _, _, hc6⟩ := hr6.slice
            have hO7 := hO6
            have hrl := HH.out.2.1.only hO7 (by intro k hk _ e; omega)
            obtain ⟨_, _, hlv, _, _, hcl⟩ := hrl.slice
            cases hlv
            have HC6 := Lib.hid hc6; have HCL := Lib.hid hcl; have HA6 := Lib.hid hA6; have HRL := Lib.hid hrl; have HO7 := Lib.hid hO7
            clear hc6 hcl hA6 hrl hO7 hO6 hr6 hown
            go_wp2_with fail
            refine (QS.len_any b c m g _ _ HA6.out).mono ?_
            rintro e w7 ⟨rfl, rfl⟩
            rw [List.length_map]
            go_wp2_with fail
            refine (QS.gone_any b c m g _ _ HA6.out).mono ?_
            rintro e w7 ⟨rfl, rfl⟩
            go_wp2
            go_loopw [23] (fun j wx => ∃ q : Nat, q ≤ ls.length ∧ j = .int .i64 q ∧ Only (fun _ => False) w6 wx) (fun j wx => ls.length - (intOf j).toNat)
            case atStart => exact ⟨0, by omega, rfl, Only.refl _ _⟩
            case round =>
              obtain ⟨q, hq, rfl, hO8⟩ := hrel
              by_cases hql : q < ls.length
              · obtain ⟨ga, oa, rfl, hga1, hga2, hcella⟩ := HC6.out q hql
                obtain ⟨gb, ob, rfl, hgb1, hgb2, hcellb⟩ := HCL.out q hql
                have hx : (ls.map Value.string)[q * 1 + 0]? = some (.string (ls.getD q ByteArray.empty)) := by
                  rw [List.getElem?_map, Nat.mul_one, Nat.add_zero, List.getElem?_eq_getElem hql, List.getD_eq_getElem?_getD, List.getElem?_eq_getElem hql]; rfl
                have hca : wr.cell? ⟨ga, oa + q, none⟩ = some (.string (ls.getD q ByteArray.empty)) := by
                  rw [cell_only hO8 hga2 (fun h => h)]; have := (hcella 0 (by omega)).1; rw [hx] at this; simpa using this
                have hcb : wr.cell? ⟨gb, ob + q, none⟩ = some (.string (ls.getD q ByteArray.empty)) := by
                  rw [cell_only hO8 hgb2 (fun h => h)]; have := (hcellb 0 (by omega)).1; rw [hx] at this; simpa using this
                clear hcella hcellb hx
                generalize ls.getD q ByteArray.empty = sq0 at hca hcb
                have hqi : (q : Int) < ls.length := by omega
                go_wp2
                go_quiet (fail)
                go_wp2
                go_roundw
                case rel => exact ⟨q + 1, by omega, by go_num, hO8.drewN _⟩
                case measure => simp [intOf]; omega
              · obtain rfl : q = ls.length := by omega
                go_wp2
                go_roundw
                case rel => exact ⟨k + 1, g, ls, by omega, by omega, by go_num, rfl, by omega, by omega, HA6.out.only hO8 (fun h => h) (fun h => h), HRL.out.only hO8 (fun _ _ _ h => h), (HH.out.2.2.trans (HO7.out.mono (fun _ _ h => .inr h))).trans (hO8.mono (fun _ _ h => h.elim))⟩
                case measure => simp [intOf]; omega
          · obtain ⟨d, hd⟩ : ∃ d : Nat, (N : Int) % 70 = d := ⟨N % 70, by omega⟩
            have hd70 : d < 70 := by omega
            have hD := Lib.hid hd; clear hd
            by_cases h91 : N % 9 = 0
            · have hq9 : ((N : Int) % 9 == 0) = true := by simp; omega
              have h92i : (g : Int) < N := by omega
              clear h9 h91
              by_cases hdz : d = 0
              · as_aux_lemma =>
                subst hdz
                obtain ⟨v2, hsl, hrow2, hblk2⟩ := Row.cutL (P := Try.prog) (t := 66) HRowa.out Try.underlying66 sizeS .i64 0 (Nat.zero_le _)
                rw [show ((0 : Nat) : Int) = 0 from rfl] at hsl
                rw [Nat.sub_zero, Nat.zero_mul, List.drop_zero] at hrow2
                obtain ⟨al2, cl2, hv2, _⟩ := hrow2.slice
                subst hv2
                have HR2 := Lib.hid hrow2; clear hrow2 hblk2
                go_wp2_with fail
                rw [hD.out]
                refine (QS.drop_ok b c m g _ _ _ HAa.out (by rw [List.length_map]; exact hls64) (by omega) (by omega) (by rw [List.length_map]; omega)).mono ?_
                rintro e w3 ⟨rfl, hA3, hO3⟩
                have hd0 : ((g : Int) + ((0 : Nat) : Int) - g).toNat = 0 := by omega
                simp only [hd0, Nat.add_zero, List.drop_zero] at hA3 ⊢
                have hr3 := HR2.out.only hO3 (by intro k hk _ e; omega)
                have HH := Lib.hid (And.intro hA3 (And.intro hr3 (HOa.out.trans hO3)))
                clear hA3 hr3 hO3 hd0
                go_wp2_with fail
                refine (QS.all_any b c m g ls _ HH.out.1 (by omega) (by omega) HH.out.1.lt.1 HH.out.1.lt.2).mono ?_
                rintro e w6 ⟨v6, rfl, hA6, hown, hO6⟩
                have hr6 := (Row.of_own hown).mono (B := w2.heap.size) HH.out.2.2.size
                obtain ⟨a6, cap6, rfl, _, _, hc6⟩ := hr6.slice
                have hO7 := hO6
                have hrl := HH.out.2.1.only hO7 (by intro k hk _ e; omega)
                obtain ⟨_, _, hlv, _, _, hcl⟩ := hrl.slice
                cases hlv
                have HC6 := Lib.hid hc6; have HCL := Lib.hid hcl; have HA6 := Lib.hid hA6; have HRL := Lib.hid hrl; have HO7 := Lib.hid hO7
                clear hc6 hcl hA6 hrl hO7 hO6 hr6 hown
                go_wp2_with fail
                refine (QS.len_any b c m g _ _ HA6.out).mono ?_
                rintro e w7 ⟨rfl, rfl⟩
                rw [List.length_map]
                go_wp2_with fail
                refine (QS.gone_any b c m g _ _ HA6.out).mono ?_
                rintro e w7 ⟨rfl, rfl⟩
                go_wp2
                go_loopw [23] (fun j wx => ∃ q : Nat, q ≤ ls.length ∧ j = .int .i64 q ∧ Only (fun _ => False) w6 wx) (fun j wx => ls.length - (intOf j).toNat)
                case atStart => exact ⟨0, by omega, rfl, Only.refl _ _⟩
                case round =>
                  obtain ⟨q, hq, rfl, hO8⟩ := hrel
                  by_cases hql : q < ls.length
                  · obtain ⟨ga, oa, rfl, hga1, hga2, hcella⟩ := HC6.out q hql
                    obtain ⟨gb, ob, rfl, hgb1, hgb2, hcellb⟩ := HCL.out q hql
                    have hx : (ls.map Value.string)[q * 1 + 0]? = some (.string (ls.getD q ByteArray.empty)) := by
                      rw [List.getElem?_map, Nat.mul_one, Nat.add_zero, List.getElem?_eq_getElem hql, List.getD_eq_getElem?_getD, List.getElem?_eq_getElem hql]; rfl
                    have hca : wr.cell? ⟨ga, oa + q, none⟩ = some (.string (ls.getD q ByteArray.empty)) := by
                      rw [cell_only hO8 hga2 (fun h => h)]; have := (hcella 0 (by omega)).1; rw [hx] at this; simpa using this
                    have hcb : wr.cell? ⟨gb, ob + q, none⟩ = some (.string (ls.getD q ByteArray.empty)) := by
                      rw [cell_only hO8 hgb2 (fun h => h)]; have := (hcellb 0 (by omega)).1; rw [hx] at this; simpa using this
                    clear hcella hcellb hx
                    generalize ls.getD q ByteArray.empty = sq0 at hca hcb
                    have hqi : (q : Int) < ls.length := by omega
                    go_wp2
                    go_quiet (fail)
                    go_wp2
                    go_roundw
                    case rel => exact ⟨q + 1, by omega, by go_num, hO8.drewN _⟩
                    case measure => simp [intOf]; omega
                  · obtain rfl : q = ls.length := by omega
                    go_wp2
                    go_roundw
                    case rel => exact ⟨k + 1, g, ls, by omega, by omega, by go_num, rfl, by omega, by omega, HA6.out.only hO8 (fun h => h) (fun h => h), HRL.out.only hO8 (fun _ _ _ h => h), (HH.out.2.2.trans (HO7.out.mono (fun _ _ h => .inr h))).trans (hO8.mono (fun _ _ h => h.elim))⟩
                    case measure => simp [intOf]; omega
              by_cases hdl : d ≤ ls.length
              · as_aux_lemma =>
                obtain ⟨v2, hsl, hrow2, hblk2⟩ := Row.cutL (P := Try.prog) (t := 66) HRowa.out Try.underlying66 sizeS .i64 d hdl
                have hdr : ((ls.map Value.string).drop (d * 1)) = (ls.drop d).map Value.string := by rw [Nat.mul_one, List.map_drop]
                have hdl2 : ls.length - d = (ls.drop d).length := by rw [List.length_drop]
                rw [hdr, hdl2] at hrow2
                obtain ⟨al2, cl2, hv2, _⟩ := hrow2.slice
                subst hv2
                have HR2 := Lib.hid hrow2; clear hrow2 hblk2 hdr
                have hdli : (d : Int) ≤ ls.length := by omega
                go_wp2_with fail
                rw [hD.out]
                refine (QS.drop_ok b c m g _ _ _ HAa.out (by rw [List.length_map]; exact hls64) (by omega) (by omega) (by rw [List.length_map]; omega)).mono ?_
                rintro e w3 ⟨rfl, hA3, hO3⟩
                have hd0 : ((g : Int) + d - g).toNat = d := by omega
                simp only [hd0] at hA3 ⊢
                rw [← List.map_drop] at hA3
                have hr3 := HR2.out.only hO3 (by intro k hk _ e; omega)
                have HH := Lib.hid (And.intro hA3 (And.intro hr3 (HOa.out.trans hO3)))
                clear hA3 hr3 hO3 hd0
                have hdl3 : (ls.drop d).length ≤ 64 := by rw [List.length_drop]; omega
                have hdl4 : (ls.drop d).length ≤ m := by rw [List.length_drop]; omega
                generalize hlz : ls.drop d = lz at HH hdl2 hdl3 hdl4 hsl
                clear hlz hdl2
                have hd1i : 1 ≤ (d : Int) := by omega
                clear hdz
                have hwd : (g : Int) + d - g = d := by omega
                go_wp2_with fail
                refine (QS.all_any b c m (g + d) lz _ HH.out.1 (by omega) (by omega) HH.out.1.lt.1 HH.out.1.lt.2).mono ?_
                rintro e w6 ⟨v6, rfl, hA6, hown, hO6⟩
                have hr6 := (Row.of_own hown).mono (B := w2.heap.size) HH.out.2.2.size
                obtain ⟨a6, cap6, rfl, _, _, hc6⟩ := hr6.slice
                have hO7 := hO6
                have hrl := HH.out.2.1.only hO7 (by intro k hk _ e; omega)
                obtain ⟨_, _, hlv, _, _, hcl⟩ := hrl.slice
                cases hlv
                have HC6 := Lib.hid hc6; have HCL := Lib.hid hcl; have HA6 := Lib.hid hA6; have HRL := Lib.hid hrl; have HO7 := Lib.hid hO7
                clear hc6 hcl hA6 hrl hO7 hO6 hr6 hown
                go_wp2_with fail
                refine (QS.len_any b c m (g + d) _ _ HA6.out).mono ?_
                rintro e w7 ⟨rfl, rfl⟩
                rw [List.length_map]
                go_wp2_with fail
                refine (QS.gone_any b c m (g + d) _ _ HA6.out).mono ?_
                rintro e w7 ⟨rfl, rfl⟩
                go_wp2
                go_loopw [23] (fun j wx => ∃ q : Nat, q ≤ lz.length ∧ j = .int .i64 q ∧ Only (fun _ => False) w6 wx) (fun j wx => lz.length - (intOf j).toNat)
                case atStart => exact ⟨0, by omega, rfl, Only.refl _ _⟩
                case round =>
                  obtain ⟨q, hq, rfl, hO8⟩ := hrel
                  by_cases hql : q < lz.length
                  · obtain ⟨ga, oa, rfl, hga1, hga2, hcella⟩ := HC6.out q hql
                    obtain ⟨gb, ob, rfl, hgb1, hgb2, hcellb⟩ := HCL.out q hql
                    have hx : (lz.map Value.string)[q * 1 + 0]? = some (.string (lz.getD q ByteArray.empty)) := by
                      rw [List.getElem?_map, Nat.mul_one, Nat.add_zero, List.getElem?_eq_getElem hql, List.getD_eq_getElem?_getD, List.getElem?_eq_getElem hql]; rfl
                    have hca : wr.cell? ⟨ga, oa + q, none⟩ = some (.string (lz.getD q ByteArray.empty)) := by
                      rw [cell_only hO8 hga2 (fun h => h)]; have := (hcella 0 (by omega)).1; rw [hx] at this; simpa using this
                    have hcb : wr.cell? ⟨gb, ob + q, none⟩ = some (.string (lz.getD q ByteArray.empty)) := by
                      rw [cell_only hO8 hgb2 (fun h => h)]; have := (hcellb 0 (by omega)).1; rw [hx] at this; simpa using this
                    clear hcella hcellb hx
                    generalize lz.getD q ByteArray.empty = sq0 at hca hcb
                    have hqi : (q : Int) < lz.length := by omega
                    go_wp2
                    go_quiet (fail)
                    go_wp2
                    go_roundw
                    case rel => exact ⟨q + 1, by omega, by go_num, hO8.drewN _⟩
                    case measure => simp [intOf]; omega
                  · obtain rfl : q = lz.length := by omega
                    go_wp2
                    go_roundw
                    case rel => exact ⟨k + 1, (g + d), lz, by omega, by omega, by go_num, rfl, by omega, by omega, HA6.out.only hO8 (fun h => h) (fun h => h), HRL.out.only hO8 (fun _ _ _ h => h), (HH.out.2.2.trans (HO7.out.mono (fun _ _ h => .inr h))).trans (hO8.mono (fun _ _ h => h.elim))⟩
                    case measure => simp [intOf]; omega
              · as_aux_lemma =>
                have hdli : (ls.length : Int) < d := by omega
                go_wp2_with fail
                rw [hD.out]
                refine (QS.drop_arg b c m g _ _ _ HAa.out (by rw [List.length_map]; exact hls64) (by omega) (by rw [List.length_map]; omega)).mono ?_
                rintro e w3 ⟨rfl, hA3, hO3⟩
                have hr3 := HRowa.out.only hO3 (by intro k hk _ e; exact e)
                have HH := Lib.hid (And.intro hA3 (And.intro hr3 (HOa.out.trans (hO3.mono (fun _ _ h => h.elim)))))
                clear hA3 hr3 hO3
                go_wp2_with fail
                refine (QS.all_any b c m g ls _ HH.out.1 (by omega) (by omega) HH.out.1.lt.1 HH.out.1.lt.2).mono ?_
                rintro e w6 ⟨v6, rfl, hA6, hown, hO6⟩
                have hr6 := (Row.of_own hown).mono (B := w2.heap.size) HH.out.2.2.size
                obtain ⟨a6, cap6, rfl, _, _, hc6⟩ := hr6.slice
                have hO7 := hO6
                have hrl := HH.out.2.1.only hO7 (by intro k hk _ e; omega)
                obtain ⟨_, _, hlv, _, _, hcl⟩ := hrl.slice
                cases hlv
                have HC6 := Lib.hid hc6; have HCL := Lib.hid hcl; have HA6 := Lib.hid hA6; have HRL := Lib.hid hrl; have HO7 := Lib.hid hO7
                clear hc6 hcl hA6 hrl hO7 hO6 hr6 hown
                go_wp2_with fail
                refine (QS.len_any b c m g _ _ HA6.out).mono ?_
                rintro e w7 ⟨rfl, rfl⟩
                rw [List.length_map]
                go_wp2_with fail
                refine (QS.gone_any b c m g _ _ HA6.out).mono ?_
                rintro e w7 ⟨rfl, rfl⟩
                go_wp2
                go_loopw [23] (fun j wx => ∃ q : Nat, q ≤ ls.length ∧ j = .int .i64 q ∧ Only (fun _ => False) w6 wx) (fun j wx => ls.length - (intOf j).toNat)
                case atStart => exact ⟨0, by omega, rfl, Only.refl _ _⟩
                case round =>
                  obtain ⟨q, hq, rfl, hO8⟩ := hrel
                  by_cases hql : q < ls.length
                  · obtain ⟨ga, oa, rfl, hga1, hga2, hcella⟩ := HC6.out q hql
                    obtain ⟨gb, ob, rfl, hgb1, hgb2, hcellb⟩ := HCL.out q hql
                    have hx : (ls.map Value.string)[q * 1 + 0]? = some (.string (ls.getD q ByteArray.empty)) := by
                      rw [List.getElem?_map, Nat.mul_one, Nat.add_zero, List.getElem?_eq_getElem hql, List.getD_eq_getElem?_getD, List.getElem?_eq_getElem hql]; rfl
                    have hca : wr.cell? ⟨ga, oa + q, none⟩ = some (.string (ls.getD q ByteArray.empty)) := by
                      rw [cell_only hO8 hga2 (fun h => h)]; have := (hcella 0 (by omega)).1; rw [hx] at this; simpa using this
                    have hcb : wr.cell? ⟨gb, ob + q, none⟩ = some (.string (ls.getD q ByteArray.empty)) := by
                      rw [cell_only hO8 hgb2 (fun h => h)]; have := (hcellb 0 (by omega)).1; rw [hx] at this; simpa using this
                    clear hcella hcellb hx
                    generalize ls.getD q ByteArray.empty = sq0 at hca hcb
                    have hqi : (q : Int) < ls.length := by omega
                    go_wp2
                    go_quiet (fail)
                    go_wp2
                    go_roundw
                    case rel => exact ⟨q + 1, by omega, by go_num, hO8.drewN _⟩
                    case measure => simp [intOf]; omega
                  · obtain rfl : q = ls.length := by omega
                    go_wp2
                    go_roundw
                    case rel => exact ⟨k + 1, g, ls, by omega, by omega, by go_num, rfl, by omega, by omega, HA6.out.only hO8 (fun h => h) (fun h => h), HRL.out.only hO8 (fun _ _ _ h => h), (HH.out.2.2.trans (HO7.out.mono (fun _ _ h => .inr h))).trans (hO8.mono (fun _ _ h => h.elim))⟩
                    case measure => simp [intOf]; omega
            · have hq9 : ((N : Int) % 9 == 0) = false := by simp; omega
              clear h9 h91
              by_cases hdz : d = 0
              · as_aux_lemma =>
                subst hdz
                obtain ⟨v2, hsl, hrow2, hblk2⟩ := Row.cutL (P := Try.prog) (t := 66) HRowa.out Try.underlying66 sizeS .i64 0 (Nat.zero_le _)
                rw [show ((0 : Nat) : Int) = 0 from rfl] at hsl
                rw [Nat.sub_zero, Nat.zero_mul, List.drop_zero] at hrow2
                obtain ⟨al2, cl2, hv2, _⟩ := hrow2.slice
                subst hv2
                have HR2 := Lib.hid hrow2; clear hrow2 hblk2
                go_wp2_with fail
                rw [hD.out]
                refine (QS.drop_ok b c m g _ _ _ HAa.out (by rw [List.length_map]; exact hls64) (by omega) (by omega) (by rw [List.length_map]; omega)).mono ?_
                rintro e w3 ⟨rfl, hA3, hO3⟩
                have hd0 : ((g : Int) + ((0 : Nat) : Int) - g).toNat = 0 := by omega
                simp only [hd0, Nat.add_zero, List.drop_zero] at hA3 ⊢
                have hr3 := HR2.out.only hO3 (by intro k hk _ e; omega)
                have HH := Lib.hid (And.intro hA3 (And.intro hr3 (HOa.out.trans hO3)))
                clear hA3 hr3 hO3 hd0
                go_wp2_with fail
                refine (QS.all_any b c m g ls _ HH.out.1 (by omega) (by omega) HH.out.1.lt.1 HH.out.1.lt.2).mono ?_
                rintro e w6 ⟨v6, rfl, hA6, hown, hO6⟩
                have hr6 := (Row.of_own hown).mono (B := w2.heap.size) HH.out.2.2.size
                obtain ⟨a6, cap6, rfl, _, _, hc6⟩ := hr6.slice
                have hO7 := hO6
                have hrl := HH.out.2.1.only hO7 (by intro k hk _ e; omega)
                obtain ⟨_, _, hlv, _, _, hcl⟩ := hrl.slice
                cases hlv
                have HC6 := Lib.hid hc6; have HCL := Lib.hid hcl; have HA6 := Lib.hid hA6; have HRL := Lib.hid hrl; have HO7 := Lib.hid hO7
                clear hc6 hcl hA6 hrl hO7 hO6 hr6 hown
                go_wp2_with fail
                refine (QS.len_any b c m g _ _ HA6.out).mono ?_
                rintro e w7 ⟨rfl, rfl⟩
                rw [List.length_map]
                go_wp2_with fail
                refine (QS.gone_any b c m g _ _ HA6.out).mono ?_
                rintro e w7 ⟨rfl, rfl⟩
                go_wp2
                go_loopw [23] (fun j wx => ∃ q : Nat, q ≤ ls.length ∧ j = .int .i64 q ∧ Only (fun _ => False) w6 wx) (fun j wx => ls.length - (intOf j).toNat)
                case atStart => exact ⟨0, by omega, rfl, Only.refl _ _⟩
                case round =>
                  obtain ⟨q, hq, rfl, hO8⟩ := hrel
                  by_cases hql : q < ls.length
                  · obtain ⟨ga, oa, rfl, hga1, hga2, hcella⟩ := HC6.out q hql
                    obtain ⟨gb, ob, rfl, hgb1, hgb2, hcellb⟩ := HCL.out q hql
                    have hx : (ls.map Value.string)[q * 1 + 0]? = some (.string (ls.getD q ByteArray.empty)) := by
                      rw [List.getElem?_map, Nat.mul_one, Nat.add_zero, List.getElem?_eq_getElem hql, List.getD_eq_getElem?_getD, List.getElem?_eq_getElem hql]; rfl
                    have hca : wr.cell? ⟨ga, oa + q, none⟩ = some (.string (ls.getD q ByteArray.empty)) := by
                      rw [cell_only hO8 hga2 (fun h => h)]; have := (hcella 0 (by omega)).1; rw [hx] at this; simpa using this
                    have hcb : wr.cell? ⟨gb, ob + q, none⟩ = some (.string (ls.getD q ByteArray.empty)) := by
                      rw [cell_only hO8 hgb2 (fun h => h)]; have := (hcellb 0 (by omega)).1; rw [hx] at this; simpa using this
                    clear hcella hcellb hx
                    generalize ls.getD q ByteArray.empty = sq0 at hca hcb
                    have hqi : (q : Int) < ls.length := by omega
                    go_wp2
                    go_quiet (fail)
                    go_wp2
                    go_roundw
                    case rel => exact ⟨q + 1, by omega, by go_num, hO8.drewN _⟩
                    case measure => simp [intOf]; omega
                  · obtain rfl : q = ls.length := by omega
                    go_wp2
                    go_roundw
                    case rel => exact ⟨k + 1, g, ls, by omega, by omega, by go_num, rfl, by omega, by omega, HA6.out.only hO8 (fun h => h) (fun h => h), HRL.out.only hO8 (fun _ _ _ h => h), (HH.out.2.2.trans (HO7.out.mono (fun _ _ h => .inr h))).trans (hO8.mono (fun _ _ h => h.elim))⟩
                    case measure => simp [intOf]; omega
              by_cases hdl : d ≤ ls.length
              · as_aux_lemma =>
                obtain ⟨v2, hsl, hrow2, hblk2⟩ := Row.cutL (P := Try.prog) (t := 66) HRowa.out Try.underlying66 sizeS .i64 d hdl
                have hdr : ((ls.map Value.string).drop (d * 1)) = (ls.drop d).map Value.string := by rw [Nat.mul_one, List.map_drop]
                have hdl2 : ls.length - d = (ls.drop d).length := by rw [List.length_drop]
                rw [hdr, hdl2] at hrow2
                obtain ⟨al2, cl2, hv2, _⟩ := hrow2.slice
                subst hv2
                have HR2 := Lib.hid hrow2; clear hrow2 hblk2 hdr
                have hdli : (d : Int) ≤ ls.length := by omega
                go_wp2_with fail
                rw [hD.out]
                refine (QS.drop_ok b c m g _ _ _ HAa.out (by rw [List.length_map]; exact hls64) (by omega) (by omega) (by rw [List.length_map]; omega)).mono ?_
                rintro e w3 ⟨rfl, hA3, hO3⟩
                have hd0 : ((g : Int) + d - g).toNat = d := by omega
                simp only [hd0] at hA3 ⊢
                rw [← List.map_drop] at hA3
                have hr3 := HR2.out.only hO3 (by intro k hk _ e; omega)
                have HH := Lib.hid (And.intro hA3 (And.intro hr3 (HOa.out.trans hO3)))
                clear hA3 hr3 hO3 hd0
                have hdl3 : (ls.drop d).length ≤ 64 := by rw [List.length_drop]; omega
                have hdl4 : (ls.drop d).length ≤ m := by rw [List.length_drop]; omega
                generalize hlz : ls.drop d = lz at HH hdl2 hdl3 hdl4 hsl
                clear hlz hdl2
                have hd1i : 1 ≤ (d : Int) := by omega
                clear hdz
                have hwd : (g : Int) + d - g = d := by omega
                go_wp2_with fail
                refine (QS.all_any b c m (g + d) lz _ HH.out.1 (by omega) (by omega) HH.out.1.lt.1 HH.out.1.lt.2).mono ?_
                rintro e w6 ⟨v6, rfl, hA6, hown, hO6⟩
                have hr6 := (Row.of_own hown).mono (B := w2.heap.size) HH.out.2.2.size
                obtain ⟨a6, cap6, rfl, _, _, hc6⟩ := hr6.slice
                have hO7 := hO6
                have hrl := HH.out.2.1.only hO7 (by intro k hk _ e; omega)
                obtain ⟨_, _, hlv, _, _, hcl⟩ := hrl.slice
                cases hlv
                have HC6 := Lib.hid hc6; have HCL := Lib.hid hcl; have HA6 := Lib.hid hA6; have HRL := Lib.hid hrl; have HO7 := Lib.hid hO7
                clear hc6 hcl hA6 hrl hO7 hO6 hr6 hown
                go_wp2_with fail
                refine (QS.len_any b c m (g + d) _ _ HA6.out).mono ?_
                rintro e w7 ⟨rfl, rfl⟩
                rw [List.length_map]
                go_wp2_with fail
                refine (QS.gone_any b c m (g + d) _ _ HA6.out).mono ?_
                rintro e w7 ⟨rfl, rfl⟩
                go_wp2
                go_loopw [23] (fun j wx => ∃ q : Nat, q ≤ lz.length ∧ j = .int .i64 q ∧ Only (fun _ => False) w6 wx) (fun j wx => lz.length - (intOf j).toNat)
                case atStart => exact ⟨0, by omega, rfl, Only.refl _ _⟩
                case round =>
                  obtain ⟨q, hq, rfl, hO8⟩ := hrel
                  by_cases hql : q < lz.length
                  · obtain ⟨ga, oa, rfl, hga1, hga2, hcella⟩ := HC6.out q hql
                    obtain ⟨gb, ob, rfl, hgb1, hgb2, hcellb⟩ := HCL.out q hql
                    have hx : (lz.map Value.string)[q * 1 + 0]? = some (.string (lz.getD q ByteArray.empty)) := by
                      rw [List.getElem?_map, Nat.mul_one, Nat.add_zero, List.getElem?_eq_getElem hql, List.getD_eq_getElem?_getD, List.getElem?_eq_getElem hql]; rfl
                    have hca : wr.cell? ⟨ga, oa + q, none⟩ = some (.string (lz.getD q ByteArray.empty)) := by
                      rw [cell_only hO8 hga2 (fun h => h)]; have := (hcella 0 (by omega)).1; rw [hx] at this; simpa using this
                    have hcb : wr.cell? ⟨gb, ob + q, none⟩ = some (.string (lz.getD q ByteArray.empty)) := by
                      rw [cell_only hO8 hgb2 (fun h => h)]; have := (hcellb 0 (by omega)).1; rw [hx] at this; simpa using this
                    clear hcella hcellb hx
                    generalize lz.getD q ByteArray.empty = sq0 at hca hcb
                    have hqi : (q : Int) < lz.length := by omega
                    go_wp2
                    go_quiet (fail)
                    go_wp2
                    go_roundw
                    case rel => exact ⟨q + 1, by omega, by go_num, hO8.drewN _⟩
                    case measure => simp [intOf]; omega
                  · obtain rfl : q = lz.length := by omega
                    go_wp2
                    go_roundw
                    case rel => exact ⟨k + 1, (g + d), lz, by omega, by omega, by go_num, rfl, by omega, by omega, HA6.out.only hO8 (fun h => h) (fun h => h), HRL.out.only hO8 (fun _ _ _ h => h), (HH.out.2.2.trans (HO7.out.mono (fun _ _ h => .inr h))).trans (hO8.mono (fun _ _ h => h.elim))⟩
                    case measure => simp [intOf]; omega
              · as_aux_lemma =>
                have hdli : (ls.length : Int) < d := by omega
                go_wp2_with fail
                rw [hD.out]
                refine (QS.drop_arg b c m g _ _ _ HAa.out (by rw [List.length_map]; exact hls64) (by omega) (by rw [List.length_map]; omega)).mono ?_
                rintro e w3 ⟨rfl, hA3, hO3⟩
                have hr3 := HRowa.out.only hO3 (by intro k hk _ e; exact e)
                have HH := Lib.hid (And.intro hA3 (And.intro hr3 (HOa.out.trans (hO3.mono (fun _ _ h => h.elim)))))
                clear hA3 hr3 hO3
                go_wp2_with fail
                refine (QS.all_any b c m g ls _ HH.out.1 (by omega) (by omega) HH.out.1.lt.1 HH.out.1.lt.2).mono ?_
                rintro e w6 ⟨v6, rfl, hA6, hown, hO6⟩
                have hr6 := (Row.of_own hown).mono (B := w2.heap.size) HH.out.2.2.size
                obtain ⟨a6, cap6, rfl, _, _, hc6⟩ := hr6.slice
                have hO7 := hO6
                have hrl := HH.out.2.1.only hO7 (by intro k hk _ e; omega)
                obtain ⟨_, _, hlv, _, _, hcl⟩ := hrl.slice
                cases hlv
                have HC6 := Lib.hid hc6; have HCL := Lib.hid hcl; have HA6 := Lib.hid hA6; have HRL := Lib.hid hrl; have HO7 := Lib.hid hO7
                clear hc6 hcl hA6 hrl hO7 hO6 hr6 hown
                go_wp2_with fail
                refine (QS.len_any b c m g _ _ HA6.out).mono ?_
                rintro e w7 ⟨rfl, rfl⟩
                rw [List.length_map]
                go_wp2_with fail
                refine (QS.gone_any b c m g _ _ HA6.out).mono ?_
                rintro e w7 ⟨rfl, rfl⟩
                go_wp2
                go_loopw [23] (fun j wx => ∃ q : Nat, q ≤ ls.length ∧ j = .int .i64 q ∧ Only (fun _ => False) w6 wx) (fun j wx => ls.length - (intOf j).toNat)
                case atStart => exact ⟨0, by omega, rfl, Only.refl _ _⟩
                case round =>
                  obtain ⟨q, hq, rfl, hO8⟩ := hrel
                  by_cases hql : q < ls.length
                  · obtain ⟨ga, oa, rfl, hga1, hga2, hcella⟩ := HC6.out q hql
                    obtain ⟨gb, ob, rfl, hgb1, hgb2, hcellb⟩ := HCL.out q hql
                    have hx : (ls.map Value.string)[q * 1 + 0]? = some (.string (ls.getD q ByteArray.empty)) := by
                      rw [List.getElem?_map, Nat.mul_one, Nat.add_zero, List.getElem?_eq_getElem hql, List.getD_eq_getElem?_getD, List.getElem?_eq_getElem hql]; rfl
                    have hca : wr.cell? ⟨ga, oa + q, none⟩ = some (.string (ls.getD q ByteArray.empty)) := by
                      rw [cell_only hO8 hga2 (fun h => h)]; have := (hcella 0 (by omega)).1; rw [hx] at this; simpa using this
                    have hcb : wr.cell? ⟨gb, ob + q, none⟩ = some (.string (ls.getD q ByteArray.empty)) := by
                      rw [cell_only hO8 hgb2 (fun h => h)]; have := (hcellb 0 (by omega)).1; rw [hx] at this; simpa using this
                    clear hcella hcellb hx
                    generalize ls.getD q ByteArray.empty = sq0 at hca hcb
                    have hqi : (q : Int) < ls.length := by omega
                    go_wp2
                    go_quiet (fail)
                    go_wp2
                    go_roundw
                    case rel => exact ⟨q + 1, by omega, by go_num, hO8.drewN _⟩
                    case measure => simp [intOf]; omega
                  · obtain rfl : q = ls.length := by omega
                    go_wp2
                    go_roundw
                    case rel => exact ⟨k + 1, g, ls, by omega, by omega, by go_num, rfl, by omega, by omega, HA6.out.only hO8 (fun h => h) (fun h => h), HRL.out.only hO8 (fun _ _ _ h => h), (HH.out.2.2.trans (HO7.out.mono (fun _ _ h => .inr h))).trans (hO8.mono (fun _ _ h => h.elim))⟩
                    case measure => simp [intOf]; omega
    · as_aux_lemma =>
      have hd : ¬ k < len ∨ ¬ k < 150 := by omega
      obtain ⟨al, capl, hlv, _, hcapl, hcells⟩ := hrow.slice
      subst hlv
      by_cases hl1 : k < len <;> by_cases hl2 : k < 150
      all_goals first | (exfalso; omega) | skip
      all_goals
        go_wp2
        go_ret
        exact ⟨rfl, hb12.trans (hO.below (by omega) (by intro k hk; omega))⟩

theorem queuePlays (most gone : Int) (v : Value) (w : World) (_ : (Lit.int .i64 most).wf = true) (w1 : (Lit.int .u32 gone).wf = true) {H : Type} {enc : TypeId × Value → H} {d : DataW H} {p : List MemPlace} {base : Nat}
    (h : DataW.Trod enc Try.prog w 0 (fun _ => true) true 62 v d p) (hv : Value.okWide Try.prog w .any base 62 v) :
    Calls Try.prog 8 #[.int .i64 most, .int .u32 gone, v] w fun e w' => e = .returned (.bool true) ∧ Below w.heap.size w w' := by
  have b1 : 0 ≤ gone ∧ gone ≤ 4294967295 := by simp [Lit.wf, IntKind.min, IntKind.max, IntKind.signed, IntKind.bits] at w1; omega
  by_cases hm : most < 1 ∨ 64 < most
  · exact plays_no most gone v w b1 hm
  · obtain ⟨m, rfl⟩ : ∃ m : Nat, most = m := ⟨most.toNat, by omega⟩
    obtain ⟨len, hel⟩ := acts_of_trod (okWide_slice Try.underlying62 hv) h
    exact plays_yes m gone v len w (by omega) (by omega) b1 hel
end Go.Proofs.Ytalikihdckknoaa
