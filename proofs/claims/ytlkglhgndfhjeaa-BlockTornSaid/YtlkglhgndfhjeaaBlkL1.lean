/- columbarylaw01.BlockTorn: the walk. -/
import Derived.Test.YtlkglhgndfhjeaaBlkP
namespace Go.Proofs.Ytlkglhgndfhjeaa
open Go Go.RowKit
set_option linter.unusedVariables false
set_option linter.unusedSimpArgs false

def tornD (p q : List UInt8) (keep torn : Int) : Dk := restarted (wrs (synced (wrs (fresh 3) 3 p)) 3 q) keep torn
def tornK (P Q : List UInt8) (K : Int) (t : Nat) (i : Nat) : List UInt8 :=
  if (i : Int) = K then Q.take t ++ P.drop t else if (i : Int) < K then Q else P
theorem torn_view (p q : List UInt8) (keep torn : Int) (i : Nat) (hi : i < 3) : (view (tornD p q keep torn)).getD i [] = tornK (pad64 p) (pad64 q) (max keep 0) (cut64 torn) i := by
  have c1 := wrs_even (st := fresh 3) rfl rfl (Fine.fresh 3) p 3 (by decide) (by decide)
  have e1 : wrs (fresh 3) 3 p = { fresh 3 with wait := [(0, pad64 p), (1, pad64 p), (2, pad64 p)], ops := 3 } := by rfl
  obtain ⟨d0, d1, d2, d3, d4⟩ := synced_calm c1.off c1.armed
  have hv : view (wrs (fresh 3) 3 p) = [pad64 p, pad64 p, pad64 p] := by rw [e1]; rfl
  have e2 : synced (wrs (fresh 3) 3 p) = ⟨[pad64 p, pad64 p, pad64 p], [], 4, 0, false⟩ := by
    rw [e1] at *
    rfl
  have e3 : wrs (synced (wrs (fresh 3) 3 p)) 3 q = ⟨[pad64 p, pad64 p, pad64 p], [(0, pad64 q), (1, pad64 q), (2, pad64 q)], 7, 0, false⟩ := by rw [e2]; rfl
  unfold tornD tornK
  rw [view_restarted, e3]
  have hk : kept ⟨[pad64 p, pad64 p, pad64 p], [(0, pad64 q), (1, pad64 q), (2, pad64 q)], 7, 0, false⟩ keep = (min (max keep 0) 3).toNat := rfl
  rw [hk]
  generalize pad64 p = P at *
  generalize pad64 q = Q at *
  generalize cut64 torn = t
  have hK : (min (max keep 0) 3).toNat = 0 ∧ max keep 0 = 0 ∨ (min (max keep 0) 3).toNat = 1 ∧ max keep 0 = 1 ∨ (min (max keep 0) 3).toNat = 2 ∧ max keep 0 = 2 ∨ (min (max keep 0) 3).toNat = 3 ∧ 3 ≤ max keep 0 := by omega
  rcases hK with ⟨h1, h2⟩ | ⟨h1, h2⟩ | ⟨h1, h2⟩ | ⟨h1, h2⟩
  · rw [h1, h2]
    match i, hi with
    | 0, _ => rfl
    | 1, _ => rfl
    | 2, _ => rfl
  · rw [h1, h2]
    match i, hi with
    | 0, _ => rfl
    | 1, _ => rfl
    | 2, _ => rfl
  · rw [h1, h2]
    match i, hi with
    | 0, _ => rfl
    | 1, _ => rfl
    | 2, _ => rfl
  · rw [h1, if_neg (by omega), if_pos (by omega)]
    match i, hi with
    | 0, _ => rfl
    | 1, _ => rfl
    | 2, _ => rfl

set_option maxRecDepth 100000 in
set_option maxHeartbeats 4000000 in
theorem torn_walk (a0 : Option Addr) (len0 cap0 : Nat) (z0 : List Int) (a1 : Option Addr) (len1 cap1 : Nat) (z1 : List Int) (keep torn : Int) (w : World) (hr0 : IsRow .u8 w a0 len0 cap0 z0) (hr1 : IsRow .u8 w a1 len1 cap1 z1)
    (hw0 : (Lit.int .i64 keep).wf = true) (hw1 : (Lit.int .i64 torn).wf = true) :
    Calls Try.prog 3 #[.slice a0 len0 cap0, .slice a1 len1 cap1, .int .i64 keep, .int .i64 torn] w fun e w' => e = .returned (.bool true) ∧ Below w.heap.size w w' := by
  clear hw0 hw1
  obtain ⟨l, hl, hb, hk⟩ := bytes_row hr0
  obtain ⟨m, hm, hbm, hkm⟩ := bytes_row hr1
  have HL := Lib.hid hl; have HB := Lib.hid hb; have HK := Lib.hid hk
  have HM := Lib.hid hm; have HBM := Lib.hid hbm; have HKM := Lib.hid hkm
  have hlen0 := hr0.len_le
  have hlen1 := hr1.len_le
  clear hr0 hl hb hk hr1 hm hbm hkm
  by_cases h64 : len0 ≤ 64
  · have e64 : decide ((64 : Int) < (len0 : Int)) = false := by simp; omega
    by_cases m64 : len1 ≤ 64
    · have f64 : decide ((64 : Int) < (len1 : Int)) = false := by simp; omega
      go_enter Try.func3, Try.ntmps3
      go_wp2_with fail
      refine (awake_any _).mono ?_
      rintro e w1 ⟨rfl, o1⟩
      have hN : Calls Try.prog 17 #[.int .i64 3] w1 _ := new_own w 3 w1 o1 (by decide) (by decide)
      have HN := Lib.hid hN; have O1 := Lib.hid o1; clear hN o1
      have v1 := wrs_even (st := fresh 3) rfl rfl (Fine.fresh 3) l
      have V1 := Lib.hid v1; clear v1
      go_wp2_with fail
      refine HN.out.mono ?_
      rintro e w2 ⟨b, rfl, h2, o2⟩
      have H2 := Lib.hid h2; clear h2 o2
      go_wp2_with fail
      go_loopw [11] (fun v wr => ∃ (i B : Nat), v = .int .i64 (i : Int) ∧ i ≤ 3 ∧ Hid (Own w B wr b (wrs (fresh 3) i l)) ∧ B ≤ wr.heap.size) (fun v _ => 3 - (intOf v).toNat)
      case atStart => exact ⟨0, _, by simp, by omega, H2, Nat.le_refl _⟩
      case round =>
        obtain ⟨i, B, rfl, hi3, HO, hB⟩ := hrel
        by_cases hlt : i < 3
        · have t1 : decide ((i : Int) < 3) = true := by simp; omega
          go_wp2_with fail
          refine (write_own w B b _ i i _ l _ HO.out (look0 (by omega) (by rw [(V1.out i hi3 (by omega)).sure]; show (i : Int) < (3 : Nat); omega) (V1.out i hi3 (by omega)).off) (HB.out.only HO.out.old (fun _ _ _ h => h)) (by rw [HL.out]; exact h64) (fun hp k hk => .inl (HK.out hp k hk)) (by have := (V1.out i hi3 (by omega)).fine; rw [Nat.zero_add] at this; exact this)).mono ?_
          rintro e w3 ⟨rfl, h3, o3⟩
          have H3 := Lib.hid h3; clear h3 o3
          go_wp2_with fail
          go_roundw
          case rel => exact ⟨i + 1, _, by simp [go_sem], by omega, H3, Nat.le_refl _⟩
          case measure => simp [intOf]; omega
        · have hke : i = 3 := by omega
          subst hke
          have t1 : decide (((3 : Nat) : Int) < 3) = false := by decide
          go_wp2_with fail
          have E1 := Lib.hid (V1.out 3 (by decide) (by decide)); clear V1
          have hsc := synced_calm E1.out.off E1.out.armed
          have hf4 : Fine (synced (wrs (fresh 3) 3 l)) 4 := E1.out.fine.synced (by decide)
          have hs3 : (synced (wrs (fresh 3) 3 l)).sure.length = 3 := by rw [hsc.2.2.2.2, view_len, E1.out.sure]; rfl
          have v2 := wrs_even (st := synced (wrs (fresh 3) 3 l)) hsc.2.1 hsc.2.2.1 hf4 m
          rw [hs3] at v2
          have V2 := Lib.hid v2; have HSC := Lib.hid hsc; have HS3 := Lib.hid hs3; clear v2 hsc hs3 hf4
          refine (sync_own w B b _ 3 _ HO.out (look0 (by decide) (by rw [E1.out.sure]; decide) E1.out.off) (by have := E1.out.fine; exact this)).mono ?_
          rintro e w4 ⟨rfl, h4, o4⟩
          have hB4 : B ≤ w4.heap.size := Nat.le_trans hB o4.size
          have H4 := Lib.hid h4; clear h4 o4 HO hB
          go_wp2_with fail
          go_loopw [12] (fun v wr => ∃ (i B : Nat), v = .int .i64 (i : Int) ∧ i ≤ 3 ∧ Hid (Own w B wr b (wrs (synced (wrs (fresh 3) 3 l)) i m)) ∧ B ≤ wr.heap.size) (fun v _ => 3 - (intOf v).toNat)
          case atStart => exact ⟨0, _, by simp, by omega, H4, hB4⟩
          case round =>
            obtain ⟨i, B, rfl, hi3, HO, hB⟩ := hrel
            by_cases hlt : i < 3
            · have t1 : decide ((i : Int) < 3) = true := by simp; omega
              go_wp2_with fail
              refine (write_own w B b _ (4 + i) i _ m _ HO.out (look0 (by omega) (by rw [(V2.out i hi3 (by omega)).sure, HS3.out]; omega) (V2.out i hi3 (by omega)).off) (HBM.out.only HO.out.old (fun _ _ _ h => h)) (by rw [HM.out]; exact m64) (fun hp k hk => .inl (HKM.out hp k hk)) (V2.out i hi3 (by omega)).fine).mono ?_
              rintro e w5 ⟨rfl, h5, o5⟩
              have H5 := Lib.hid h5; clear h5 o5
              go_wp2_with fail
              go_roundw
              case rel => exact ⟨i + 1, _, by simp [go_sem], by omega, H5, Nat.le_refl _⟩
              case measure => simp [intOf]; omega
            · have hke : i = 3 := by omega
              subst hke
              have t1 : decide (((3 : Nat) : Int) < 3) = false := by decide
              have E2 := Lib.hid (V2.out 3 (by decide) (by decide)); clear V2
              go_wp2_with fail
              refine (restart_own w B b _ 7 keep torn _ HO.out E2.out.fine).mono ?_
              rintro e w5 ⟨rfl, h5, o5⟩
              have hB5 : B ≤ w5.heap.size := Nat.le_trans hB o5.size
              have hf5 : Fine (tornD l m keep torn) 7 := E2.out.fine.restarted keep torn
              have hs5 : (tornD l m keep torn).sure.length = 3 := by unfold tornD; rw [restarted_len, E2.out.sure, HS3.out]
              have ho5 : (tornD l m keep torn).off = false := rfl
              have H5 : Hid (Own w B w5 b (tornD l m keep torn)) := Lib.hid h5
              have F5 := Lib.hid hf5; have S5 := Lib.hid hs5; have P5 := Lib.hid ho5
              clear h5 o5 HO hB hf5 hs5 ho5
              go_upto_if 62 with (fail)
              go_cut [13] from 21 (fun v w' => v = .int .i64 (max keep 0) ∧ w' = w5)
              case first =>
                go_wp2
                all_goals (go_meet; case rel => exact ⟨by congr 1; omega, rfl⟩)
              case rest =>
                obtain ⟨rfl, hwc⟩ := hcut
                rw [hwc]
                clear hwc
                have hv := torn_view l m keep torn
                have HV := Lib.hid hv; clear hv
                generalize max keep 0 = K at *
                go_upto_if 65 with (fail)
                go_cut [14] from 21 (fun v w' => v = .int .i64 (max torn 0) ∧ w' = w5)
                case first =>
                  go_wp2
                  all_goals (go_meet; case rel => exact ⟨by congr 1; omega, rfl⟩)
                case rest =>
                  obtain ⟨rfl, hwc⟩ := hcut
                  rw [hwc]
                  clear hwc
                  go_upto_if 67 with (fail)
                  go_cut [14] from 21 (fun v w' => v = .int .i64 ((cut64 torn : Nat) : Int) ∧ w' = w5)
                  case first =>
                    go_wp2
                    all_goals (go_meet; case rel => exact ⟨by unfold cut64; congr 1; omega, rfl⟩)
                  case rest =>
                    obtain ⟨rfl, hwc⟩ := hcut
                    rw [hwc]
                    clear hwc
                    have hct := cut64_le torn
                    generalize cut64 torn = t at *
                    have hmk := make64
                    go_upto_region 24 with (fail)
                    refine wp_region_lit ?_
                    iterate 2 (refine wpList_plain rfl fun J hJ => ?_; go_simp; refine hJ _ _ ?_; clear hJ J)
                    have hw6 : ∃ w6, w6 = (w5.alloc (Obj.cells zeroB 5)).alloc (Obj.cells zeroB 5) := ⟨_, rfl⟩
                    obtain ⟨w6, hw6⟩ := hw6
                    have g6a : w6.heap[w5.heap.size]? = some (.cells (u8s zeros64).toArray 5 (0, 0)) := by rw [hw6]; exact heap_old (heap_new w5 _) _
                    have g6b : w6.heap[w5.heap.size + 1]? = some (.cells (u8s zeros64).toArray 5 (0, 0)) := by
                      rw [hw6]
                      have e : w5.heap.size + 1 = (w5.alloc (.cells zeroB 5)).heap.size := by simp
                      rw [e]; exact heap_new _ _
                    have o6 : Only (fun _ => False) w5 w6 := by rw [hw6]; exact ((Only.refl _ w5).alloc _).alloc _
                    rw [← hw6]
                    have G6A := Lib.hid g6a; have G6B := Lib.hid g6b; have O6 := Lib.hid o6; clear g6a g6b o6 hw6 hmk
                    refine wpList_copy_only rfl (.tmp 70) (.tmp 71) 22 22 rfl 5 Try.underlying22 sizeB (some ⟨w5.heap.size, 0, none⟩) a0 64 64 len0 cap0 (by rfl) (by rfl) w5.heap.size 0 (u8s zeros64) 5 G6A.out (u8s l) (by rw [u8s_len, HL.out]; exact (Nat.min_eq_left h64).symm) (fun hp => ⟨rfl, (HB.out.only (H5.out.old.trans O6.out) (fun _ _ _ h => h)).src hp⟩) (by rw [u8s_len, u8s_len, HL.out]; show 0 + len0 ≤ 64; omega) u8s_one ?_
                    intro w7 h7 o7
                    rw [splice_64 l (by rw [HL.out]; exact h64)] at h7
                    have H7 := Lib.hid h7; have O7 := Lib.hid o7; clear h7 o7
                    go_upto_region 25 with (fail)
                    refine wp_region_lit ?_
                    iterate 2 (refine wpList_plain rfl fun J hJ => ?_; go_simp; refine hJ _ _ ?_; clear hJ J)
                    have hlt6 : w5.heap.size + 1 < w6.heap.size := (Array.getElem?_eq_some_iff.1 G6B.out).1
                    have g7b : w7.heap[w5.heap.size + 1]? = some (.cells (u8s zeros64).toArray 5 (0, 0)) := by rw [O7.out.block _ hlt6 (by omega)]; exact G6B.out
                    refine wpList_copy_only rfl (.tmp 73) (.tmp 74) 22 22 rfl 5 Try.underlying22 sizeB (some ⟨w5.heap.size + 1, 0, none⟩) a1 64 64 len1 cap1 (by rfl) (by rfl) (w5.heap.size + 1) 0 (u8s zeros64) 5 g7b (u8s m) (by rw [u8s_len, HM.out]; exact (Nat.min_eq_left m64).symm) (fun hp => ⟨rfl, (HBM.out.only (((H5.out.old.trans O6.out).trans' O7.out (T := fun k => k = w5.heap.size) (fun k hk e => by have := H5.out.old.size; omega))) (fun _ _ _ h => h)).src hp⟩) (by rw [u8s_len, u8s_len, HM.out]; show 0 + len1 ≤ 64; omega) u8s_one ?_
                    intro w8 h8 o8
                    rw [splice_64 m (by rw [HM.out]; exact m64)] at h8
                    have h8a : w8.heap[w5.heap.size]? = some (.cells (u8s (pad64 l)).toArray 5 (0, 0)) := by rw [o8.block _ (by have := O7.out.size; omega) (by omega)]; exact H7.out
                    have o58 : Only (fun k => w5.heap.size ≤ k) w5 w8 := ((O6.out.mono (T := fun k => w5.heap.size ≤ k) (fun _ _ h => h.elim)).trans' O7.out (fun k _ e => by omega)).trans' o8 (fun k _ e => by omega)
                    have h8o : Own w B w8 b (tornD l m keep torn) := H5.out.only o58 (fun k hk => ⟨Nat.le_trans H5.out.old.size hk, Nat.le_trans hB5 hk⟩)
                    have hB8 : B ≤ w8.heap.size := Nat.le_trans hB5 o58.size
                    have H8A := Lib.hid h8a; have H8B := Lib.hid h8; have H8 := Lib.hid h8o
                    clear h8a h8 h8o o58 o8 g7b
                    go_wp2_with fail
                    go_loopw [17] (fun v wr => ∃ (i : Nat), v = .int .i64 (i : Int) ∧ i ≤ 3 ∧ Hid (Own w B wr b (tornD l m keep torn)) ∧ Hid (wr.heap[w5.heap.size]? = some (.cells (u8s (pad64 l)).toArray 5 (0, 0))) ∧ Hid (wr.heap[w5.heap.size + 1]? = some (.cells (u8s (pad64 m)).toArray 5 (0, 0))) ∧ B ≤ wr.heap.size) (fun v _ => 3 - (intOf v).toNat)
                    case atStart => exact ⟨0, by simp, by omega, H8, H8A, H8B, hB8⟩
                    case round =>
                      obtain ⟨i, rfl, hi3, HO, HA, HBB, hB⟩ := hrel
                      by_cases hlt : i < 3
                      · have t1 : decide ((i : Int) < 3) = true := by simp; omega
                        have hi' : i < (tornD l m keep torn).sure.length := by rw [S5.out]; exact hlt
                        have HI' := Lib.hid hi'; clear hi'
                        have hil : (i : Int) < (tornD l m keep torn).sure.length := by have := HI'.out; omega
                        have HIL := Lib.hid hil; clear hil
                        go_wp2_with fail
                        refine (read_own w B b _ 7 i _ HO.out (look0 (by omega) HIL.out P5.out) F5.out hB).mono ?_
                        rintro e w9 ⟨v9, rfl, ht9, h9, o9⟩
                        have hb9 := bytes_told ht9 (disk_len64 HO.out.at_ HI'.out)
                        rw [HV.out i hlt] at hb9
                        have a9 : w9.heap[w5.heap.size]? = some (.cells (u8s (pad64 l)).toArray 5 (0, 0)) := by rw [o9.block _ (Array.getElem?_eq_some_iff.1 HA.out).1 (fun h => h)]; exact HA.out
                        have b9 : w9.heap[w5.heap.size + 1]? = some (.cells (u8s (pad64 m)).toArray 5 (0, 0)) := by rw [o9.block _ (Array.getElem?_eq_some_iff.1 HBB.out).1 (fun h => h)]; exact HBB.out
                        have H9 := Lib.hid h9; have A9 := Lib.hid a9; have B9 := Lib.hid b9; have HB9 := Lib.hid hb9
                        have hBn : B ≤ w9.heap.size := Nat.le_trans hB o9.size
                        clear h9 a9 b9 hb9 ht9 o9
                        go_upto_region 30 with (fail)
                        have hpl : (pad64 l).length = 64 := pad64_len (by rw [HL.out]; exact h64)
                        have hpm : (pad64 m).length = 64 := pad64_len (by rw [HM.out]; exact m64)
                        have cA : (convert 22 9 (.slice (some ⟨w5.heap.size, 0, none⟩) 64 64)).run Try.prog w9 = .ok (.string ⟨(pad64 l).toArray⟩) w9 := by
                          have := (bytes_block A9.out (lo := 0) (n := 64) (cap := 64) (by omega) (by omega) (by omega)).conv
                          rw [List.drop_zero, List.take_of_length_le (by omega)] at this; exact this
                        have cN : (convert 22 9 (.slice (some ⟨w5.heap.size + 1, 0, none⟩) 64 64)).run Try.prog w9 = .ok (.string ⟨(pad64 m).toArray⟩) w9 := by
                          have := (bytes_block B9.out (lo := 0) (n := 64) (cap := 64) (by omega) (by omega) (by omega)).conv
                          rw [List.drop_zero, List.take_of_length_le (by omega)] at this; exact this
                        have HPL := Lib.hid hpl; have HPM := Lib.hid hpm; clear hpl hpm
                        rcases Int.lt_trichotomy (i : Int) K with h | h | h
                        · have hX : tornK (pad64 l) (pad64 m) K t i = pad64 m := by unfold tornK; rw [if_neg (by omega), if_pos (by omega)]
                          have hcb := HB9.out
                          rw [hX] at hcb
                          have cB := hcb.conv
                          have d1 : decide ((i : Int) < K) = true := by simp; omega
                          have d2 : ((i : Int) == K) = false := by simp; omega
                          clear hX hcb
                          go_wp2_with fail
                          go_roundw
                          case rel => exact ⟨i + 1, by simp [go_sem], by omega, H9, A9, B9, hBn⟩
                          case measure => simp [intOf]; omega
                        · subst h
                          go_upto_region 34 with (fail)
                          have hX : tornK (pad64 l) (pad64 m) (i : Int) t i = (pad64 m).take t ++ (pad64 l).drop t := by unfold tornK; rw [if_pos rfl]
                          have hcb := HB9.out
                          rw [hX] at hcb
                          have hcc := hcb.conv
                          rw [← bytes_append] at hcc
                          obtain ⟨S1, hS1⟩ : ∃ S1 : ByteArray, S1 = ⟨((pad64 m).take t).toArray⟩ := ⟨_, rfl⟩
                          obtain ⟨S2, hS2⟩ : ∃ S2 : ByteArray, S2 = ⟨((pad64 l).drop t).toArray⟩ := ⟨_, rfl⟩
                          have hz : S1.size + S2.size ≤ 9223372036854775807 := by
                            have q1 : S1.size ≤ 64 := by rw [hS1]; show ((pad64 m).take t).toArray.size ≤ 64; rw [List.size_toArray, List.length_take]; omega
                            have q2 : S2.size ≤ 64 := by rw [hS2]; show ((pad64 l).drop t).toArray.size ≤ 64; rw [List.size_toArray, List.length_drop, HPL.out]; omega
                            omega
                          rw [← hS1, ← hS2] at hcc
                          have HS1 := Lib.hid hS1; have HS2 := Lib.hid hS2; clear hS1 hS2
                          have CB := Lib.hid hcc; clear hcc
                          have i1 : (0 : Int) ≤ (t : Int) := by omega
                          have i2 : (t : Int) ≤ 64 := by omega
                          have cT : ∀ n, (convert 22 9 (.slice (some ⟨w5.heap.size + 1, 0, none⟩) t 64)).run Try.prog (w9.drewN n) = .ok (.string S1) (w9.drewN n) := by
                            intro n
                            rw [HS1.out]
                            have := ((bytes_block B9.out (lo := 0) (n := t) (cap := 64) (by rw [HPM.out]; omega) (by omega) (by omega)).drewN n).conv
                            rw [List.drop_zero] at this; exact this
                          have HX := Lib.hid hX
                          clear hX hcb cA cN
                          by_cases ht : 64 = t
                          · subst ht
                            have cD : ∀ n, (convert 22 9 (.slice (some ⟨w5.heap.size, 0, none⟩) 0 0)).run Try.prog (w9.drewN n) = .ok (.string S2) (w9.drewN n) := by
                              intro n
                              rw [HS2.out]
                              have := ((bytes_block A9.out (lo := 0) (n := 0) (cap := 0) (by rw [HPL.out]; omega) (by omega) (by omega)).drewN n).conv
                              have e2 : (pad64 l).drop 64 = [] := List.drop_eq_nil_of_le (by rw [HPL.out]; omega)
                              rw [this, e2]; rfl
                            go_quiet (fail)
                            clear cT cD
                            have cB : ∀ n, (convert 22 9 v9).run Try.prog (w9.drewN n) = .ok (.string (S1 ++ S2)) (w9.drewN n) := fun n => by
                              have e := HB9.out
                              rw [HX.out] at e
                              have := (e.drewN n).conv
                              rw [← bytes_append, ← HS1.out, ← HS2.out] at this; exact this
                            go_wp2_with fail
                            go_roundw
                            case rel => exact ⟨i + 1, by simp [go_sem], by omega, Lib.hid (H9.out.only ((Only.refl (fun _ => False) w9).drewN nq) (fun _ h => h.elim)), A9, B9, hBn⟩
                            case measure => simp [intOf]; omega
                          · have ht' : ¬ t = 64 := fun e => ht e.symm
                            have cD : ∀ n, (convert 22 9 (.slice (some ⟨w5.heap.size, t, none⟩) (64 - t) (64 - t))).run Try.prog (w9.drewN n) = .ok (.string S2) (w9.drewN n) := by
                              intro n
                              rw [HS2.out]
                              have := ((bytes_block A9.out (lo := t) (n := 64 - t) (cap := 64 - t) (by rw [HPL.out]; omega) (by omega) (by omega)).drewN n).conv
                              rw [this, List.take_of_length_le (by rw [List.length_drop, HPL.out]; omega)]
                            go_quiet (fail)
                            clear cT cD
                            have cB : ∀ n, (convert 22 9 v9).run Try.prog (w9.drewN n) = .ok (.string (S1 ++ S2)) (w9.drewN n) := fun n => by
                              have e := HB9.out
                              rw [HX.out] at e
                              have := (e.drewN n).conv
                              rw [← bytes_append, ← HS1.out, ← HS2.out] at this; exact this
                            go_wp2_with fail
                            go_roundw
                            case rel => exact ⟨i + 1, by simp [go_sem], by omega, Lib.hid (H9.out.only ((Only.refl (fun _ => False) w9).drewN nq) (fun _ h => h.elim)), A9, B9, hBn⟩
                            case measure => simp [intOf]; omega
                        · have hX : tornK (pad64 l) (pad64 m) K t i = pad64 l := by unfold tornK; rw [if_neg (by omega), if_neg (by omega)]
                          have hcb := HB9.out
                          rw [hX] at hcb
                          have cB := hcb.conv
                          have d1 : decide ((i : Int) < K) = false := by simp; omega
                          have d2 : ((i : Int) == K) = false := by simp; omega
                          clear hX hcb
                          go_wp2_with fail
                          go_roundw
                          case rel => exact ⟨i + 1, by simp [go_sem], by omega, H9, A9, B9, hBn⟩
                          case measure => simp [intOf]; omega
                      · have hke : i = 3 := by omega
                        subst hke
                        have t1 : decide (((3 : Nat) : Int) < 3) = false := by decide
                        go_wp2
                        go_ret
                        exact ⟨rfl, HO.out.old.still⟩
    · have f64 : decide ((64 : Int) < (len1 : Int)) = true := by simp; omega
      go_enter Try.func3, Try.ntmps3
      go_wp2_with fail
      refine (awake_any _).mono ?_
      rintro e w1 ⟨rfl, o1⟩
      go_wp2_with fail
      refine (awake_any _).mono ?_
      rintro e w2 ⟨rfl, o2⟩
      go_wp2
      go_ret
      exact ⟨rfl, (o1.trans o2).still⟩
  · have e64 : decide ((64 : Int) < (len0 : Int)) = true := by simp; omega
    go_enter Try.func3, Try.ntmps3
    go_wp2_with fail
    refine (awake_any _).mono ?_
    rintro e w1 ⟨rfl, o1⟩
    go_wp2_with fail
    refine (awake_any _).mono ?_
    rintro e w2 ⟨rfl, o2⟩
    go_wp2
    go_ret
    exact ⟨rfl, (o1.trans o2).still⟩
end Go.Proofs.Ytlkglhgndfhjeaa
