/- The reference's disk (columbaryref01): Restart. -/
import Derived.Test.YtlkglhgndfhjeaaRkF
import Derived.Deep.Cut
import Derived.Deep.CutBlock
namespace Go.Proofs.Ytlkglhgndfhjeaa
open Go Go.RowKit
set_option linter.unusedVariables false
set_option linter.unusedSimpArgs false
set_option maxRecDepth 100000

theorem ext_eq (l : List UInt8) (i j : Nat) : (⟨l.toArray⟩ : ByteArray).extract i j = ⟨((l.take j).drop i).toArray⟩ := by
  rw [ByteArray.ext_iff, ByteArray.data_extract]
  simp only
  rw [← Array.toList_inj]
  simp [List.drop_take]
theorem slice_to (l : List UInt8) (t : Nat) (ht : t ≤ l.length) (w : World) : (Instr.slice 9 (.string ⟨l.toArray⟩) none (some (.int .i64 (t : Int))) none).run Try.prog w = .ok (.string ⟨(l.take t).toArray⟩) w := by
  rw [run_slice_string_h w 9 ⟨l.toArray⟩ (by kernel_rfl) .i64 (t : Int) (by omega) (by simp [ByteArray.size]; omega), ext_eq]
  simp
theorem slice_from (l : List UInt8) (t : Nat) (ht : t ≤ l.length) (w : World) : (Instr.slice 9 (.string ⟨l.toArray⟩) (some (.int .i64 (t : Int))) none none).run Try.prog w = .ok (.string ⟨(l.drop t).toArray⟩) w := by
  rw [run_slice_string_l w 9 ⟨l.toArray⟩ (by kernel_rfl) .i64 (t : Int) (by omega) (by simp [ByteArray.size]; omega), ext_eq]
  have e : List.take (⟨l.toArray⟩ : ByteArray).size l = l := List.take_of_length_le (by simp [ByteArray.size])
  rw [e]; simp
theorem sizeWr : (Try.prog.info? 88).map (·.size) = some 2 := by kernel_rfl
theorem sizeOfWr (w : World) : (sizeOf (Try.prog.elem 48)).run Try.prog w = .ok 2 w := by kernel_rfl
theorem cutWr (a : Option Addr) (n c k : Nat) (hk : k ≤ n) (w : World) : (Instr.slice 48 (.slice a n c) (some (.int .i64 (k : Int))) none none).run Try.prog w = .ok (sliced a k n c 2) w := by
  rw [run_slice_l w 48 a n c (by kernel_rfl) .i64 (k : Int) (by omega) (by omega), sizeOfWr]
  simp [Result.andThen]
theorem RkAt.apart {F : Nat → Prop} {w : World} {b : Nat} {st : Dk} (h : RkAt w F b st) {v u : Value} (hc : w.cell? ⟨b, 0, none⟩ = some v) (hd : w.cell? ⟨b, 1, none⟩ = some u) : ∀ k, v.ownBlock = some k → u.ownBlock ≠ some k := by
  obtain ⟨h1, h2, h2a, h2b, vS, vL, h3, h4, h5, h6, h7, h8⟩ := h
  have e : vS = v := by simpa [World.cell?, h3] using hc
  have e' : vL = u := by simpa [World.cell?, h3] using hd
  subst e; subst e'; exact h8
theorem settleD_set (st : Dk) (keep torn : Int) (kp : Nat) (h : kp < st.wait.length) (hk : kept st keep = kp) (i : Nat) (hi : st.wait[kp].1 = (i : Int)) :
    restarted st keep torn = { settleD st kp with sure := (settleD st kp).sure.set i (st.wait[kp].2.take (cut64 torn) ++ ((settleD st kp).sure.getD i []).drop (cut64 torn)), off := false, armed := 0 } := by
  have hwo : st.wait[kp]? = some st.wait[kp] := List.getElem?_eq_getElem h
  unfold restarted settleD
  rw [hk, hwo]
  simp only [tornS, hi, Int.toNat_natCast]
theorem settleD_none (st : Dk) (keep torn : Int) (hk : kept st keep = st.wait.length) : restarted st keep torn = { settleD st st.wait.length with off := false, armed := 0 } := by
  have hwo : st.wait[st.wait.length]? = none := by simp
  unfold restarted settleD
  rw [hk, hwo]
  simp only [tornS]

set_option maxHeartbeats 4000000 in
theorem rkRestart (F : Nat → Prop) (b : Nat) (st : Dk) (m : Nat) (keep torn : Int) (w : World) (h : RkAt w F b st) (hf : Fine st m) :
    Calls Try.prog 29 #[.pointer (some ⟨b, 0, none⟩), .int .i64 keep, .int .i64 torn] w fun e w' => e = .returned (.tuple #[]) ∧ RkAt w' F b (restarted st keep torn) ∧ Only F w w' := by
  obtain ⟨aS, aL, cS, cL, c0, c1, c2, c3, c4, fz, hS, hL⟩ := h.cells
  have hwl : (st.wait.length : Int) ≤ 1000000000 := by have := hf.wait; have := hf.small; omega
  obtain ⟨aL0, cL0, eL0, hcl, _, _⟩ := own_form hL
  injection eL0 with e1 e2 e3
  subst e1; subst e3
  have HCL := Lib.hid hcl
  have H := Lib.hid h; have HF := Lib.hid hf; have HS := Lib.hid hS; have HL := Lib.hid hL; clear h hf hS hL e2 hcl
  go_enter Try.func29, Try.ntmps29
  go_upto_if 9 with (fail)
  go_cut [1] from 8 (fun v w' => v = .int .i64 (max keep 0) ∧ w' = w)
  case first =>
    go_wp2
    all_goals (go_meet; case rel => exact ⟨by congr 1; omega, rfl⟩)
  case rest =>
    obtain ⟨rfl, hwc⟩ := hcut
    rw [hwc]
    clear hwc
    have hke : (min (max keep 0) st.wait.length).toNat = kept st keep := rfl
    have hkl := kept_le st keep
    have HKE := Lib.hid hke; clear hke
    obtain ⟨K, hK⟩ : ∃ K, max keep 0 = K := ⟨_, rfl⟩
    rw [hK] at HKE ⊢
    have hK0 : 0 ≤ K := by omega
    clear hK
    go_upto_if 16 with (fail)
    go_cut [1] from 8 (fun v w' => v = .int .i64 ((kept st keep : Nat) : Int) ∧ w' = w)
    case first =>
      have hke := HKE.out
      go_wp2
      all_goals (go_meet; case rel => exact ⟨by congr 1; omega, rfl⟩)
    case rest =>
      obtain ⟨rfl, hwc⟩ := hcut
      rw [hwc]
      clear hwc
      go_upto_if 23 with (fail)
      go_cut [2] from 8 (fun v w' => v = .int .i64 (max torn 0) ∧ w' = w)
      case first =>
        go_wp2
        all_goals (go_meet; case rel => exact ⟨by congr 1; omega, rfl⟩)
      case rest =>
        obtain ⟨rfl, hwc⟩ := hcut
        rw [hwc]
        clear hwc
        go_upto_if 25 with (fail)
        go_cut [2] from 8 (fun v w' => v = .int .i64 ((cut64 torn : Nat) : Int) ∧ w' = w)
        case first =>
          go_wp2
          all_goals (go_meet; case rel => exact ⟨by unfold cut64; congr 1; omega, rfl⟩)
        case rest =>
          obtain ⟨rfl, hwc⟩ := hcut
          rw [hwc]
          clear hwc HKE hK0
          obtain ⟨kp, hkp⟩ : ∃ kp, kept st keep = kp := ⟨_, rfl⟩
          obtain ⟨t, ht⟩ : ∃ t, cut64 torn = t := ⟨_, rfl⟩
          have hset := settleD_set st keep torn kp
          have hnone := settleD_none st keep torn
          have ht64 := cut64_le torn
          have hd := rkDone F b st kp w H.out (by omega) (by have := HF.out.wait; have := HF.out.small; omega) HF.out.ix
          rw [hkp] at hset hnone hkl ⊢
          rw [ht] at hset ht64 ⊢
          have HNONE := Lib.hid hnone; have HD := Lib.hid hd
          clear hnone hd hkp ht
          have hcw := cutWr aL st.wait.length cL kp (by omega)
          by_cases hlt : kp < st.wait.length
          · have hset' := hset hlt rfl
            clear hset HNONE
            obtain ⟨gw, rfl, hgw, f0, f1⟩ := wait_cell HL.out rfl hlt
            obtain ⟨hx0, hx1⟩ := HF.out.ix _ (List.getElem_mem hlt)
            have hp64 : st.wait[kp].2.length = 64 := H.out.2.2.2.1 _ (List.getElem_mem hlt)
            obtain ⟨ix, hix⟩ : ∃ ix : Nat, st.wait[kp].1 = (ix : Int) := ⟨_, (Int.toNat_of_nonneg hx0).symm⟩
            have hset := hset' ix hix
            rw [hix] at f0 hx0 hx1
            obtain ⟨p, hp⟩ : ∃ p, p = st.wait[kp].2 := ⟨_, rfl⟩
            rw [← hp] at f1 hp64 hset
            obtain ⟨n, hn, hn0⟩ : ∃ n, st.wait.length - kp = n ∧ 0 < n := ⟨_, rfl, by omega⟩
            have hR : sliced (some ⟨gw, 0, none⟩) kp st.wait.length cL 2 = .slice (some ⟨gw, kp * 2, none⟩) n (cL - kp) := by
              have := HCL.out
              simp only [sliced]
              rw [if_neg (by omega), hn]
              simp [addr_add]
            simp only [hR] at hcw
            have hwO := H.out.waitOwn c1
            have hwA := H.out.apart c0 c1
            have hgwF := hwO gw rfl
            have hsl := settled_len (st.wait.take kp) st.sure
            have hsll : (settleD st kp).sure.length = st.sure.length := hsl
            have hw0 := H.out.1
            have HSET := Lib.hid hset; have HFW := Lib.hid hgwF; have HSLL := Lib.hid hsll; have HW0 := Lib.hid hw0; have HGW := Lib.hid hgw; have HWA := Lib.hid hwA; have HP64 := Lib.hid hp64
            have hF0 := Lib.hid f0; have hF1 := Lib.hid f1
            clear hset hset' hix hp hn hR hgwF hsl hsll hw0 hgw hwO hwA hp64 f0 f1
            have hn0' : (0 : Int) < (n : Int) := by omega
            have tn : decide ((0 : Int) < (n : Int)) = true := by simpa using hn0
            go_wp2_with fail
            refine HD.out.mono ?_
            rintro e w2 ⟨rfl, h2, o2⟩
            have o2F := H.out.touch o2
            obtain ⟨aS2, aL2, cS2, cL2, d0, d1, d2, d3, d4, dz, hS2, _⟩ := h2.cells
            have hix2 : ix < (settleD st kp).sure.length := by rw [HSLL.out]; omega
            obtain ⟨gs, rfl, hgs, f2⟩ := sure_cell hS2 rfl hix2
            have hfz := own_frozen hS2 ix
            have hnot : ¬ (gw = b ∨ ∃ m c, w.cell? ⟨b, 0, none⟩ = some (.slice (some ⟨gw, 0, none⟩) m c)) := by
              rintro (h | ⟨m', c', h⟩)
              · exact HFW.out.1 h
              · rw [c0] at h
                injection h with h; injection h with h4 h5 h6
                subst h4
                exact HWA.out gw rfl rfl
            have f0 : w2.cell? ⟨gw, kp * 2, none⟩ = some (.int .i64 (ix : Int)) := by rw [cell_only o2 (a := ⟨gw, _, none⟩) HGW.out hnot]; exact hF0.out
            have f1 : w2.cell? ⟨gw, kp * 2 + 1, none⟩ = some (.string ⟨p.toArray⟩) := by rw [cell_only o2 (a := ⟨gw, _, none⟩) HGW.out hnot]; exact hF1.out
            rw [HSLL.out] at d0
            obtain ⟨q, hq⟩ : ∃ q, q = (settleD st kp).sure[ix] := ⟨_, rfl⟩
            rw [← hq] at f2
            have hqg : (settleD st kp).sure.getD ix [] = q := by rw [List.getD_eq_getElem?_getD, List.getElem?_eq_getElem hix2, hq]; rfl
            have hq64 : q.length = 64 := by rw [hq]; exact h2.2.2.1 _ (List.getElem_mem hix2)
            have hpt : (p.take t ++ q.drop t).length = 64 := by rw [List.length_append, List.length_take, List.length_drop, HP64.out, hq64]; omega
            have hset := HSET.out
            rw [hqg] at hset
            have hgw2 : gw < w2.heap.size := Nat.lt_of_lt_of_le HGW.out o2.size
            have hb2 := h2.lt
            have hFA : ∀ w', Only (fun _ => False) w2 w' → RkAt w' F b (settleD st kp) ∧ w'.cell? ⟨b, 0, none⟩ = some (.slice (some ⟨gs, 0, none⟩) st.sure.length cS2) ∧ w'.cell? ⟨gw, kp * 2, none⟩ = some (.int .i64 (ix : Int)) ∧ w'.cell? ⟨gw, kp * 2 + 1, none⟩ = some (.string ⟨p.toArray⟩) ∧ w'.cell? ⟨gs, ix, none⟩ = some (.string ⟨q.toArray⟩) ∧ w'.frozen? ⟨gs, ix, none⟩ = false ∧ (∀ o, w'.frozen? ⟨b, o, none⟩ = false) := fun w' o =>
              ⟨h2.only o (fun _ _ _ h => h), by rw [cell_only o (a := ⟨b, 0, none⟩) hb2 (fun h => h)]; exact d0, by rw [cell_only o (a := ⟨gw, _, none⟩) hgw2 (fun h => h)]; exact f0, by rw [cell_only o (a := ⟨gw, _, none⟩) hgw2 (fun h => h)]; exact f1, by rw [cell_only o (a := ⟨gs, _, none⟩) hgs (fun h => h)]; exact f2, by rw [frozen_only o (a := ⟨gs, _, none⟩) hgs (fun h => h)]; exact hfz, fun k => by rw [frozen_only o (a := ⟨b, _, none⟩) hb2 (fun h => h)]; exact dz k⟩
            have hs1 := slice_to p t (by rw [HP64.out]; exact ht64)
            have hs2 := slice_from q t (by rw [hq64]; exact ht64)
            have HQ64 := Lib.hid hq64; have HS1 := Lib.hid hs1; have HS2 := Lib.hid hs2
            have H2 := Lib.hid h2; have O2 := Lib.hid o2F; have HFA' := Lib.hid hFA; have HSET2 := Lib.hid hset; have HPT := Lib.hid hpt; have HIX2 := Lib.hid hix2
            clear h2 o2 o2F hcw hFA d1 d2 d3 d4 f1 f2 hfz hnot hS2 hgs hq hqg hq64 hpt hset hgw2 hb2 hs1 hs2 HSET hix2
            have hxx0 : (0 : Int) ≤ (ix : Int) := by omega
            go_upto_region 12 with (fail)
            refine wp_region_steps 22 (by kernel_rfl) rfl (by kernel_rfl) [some 42, some 43, some 44, some 45, some 46, some 47, some 48, some 49, some 50, some 51, some 52, some 53, some 54, some 55, some 56, some 57, some 58, some 59, some 60, some 61, some 62, some 63] rfl rfl (fun _ => False) [(fun v _ => v = (.pointer (some ⟨b, 0, none⟩))), (fun v _ => v = (.pointer (some ⟨b, 0, none⟩))), (fun v _ => v = (.pointer (some ⟨b, 0, none⟩))), (fun v _ => v = (.slice (some ⟨gs, 0, none⟩) st.sure.length cS2)), (fun v _ => v = (.int .i64 (ix : Int))), (fun v _ => v = (.slice (some ⟨gw, kp * 2, none⟩) n (cL - kp))), (fun v _ => v = (.pointer (some ⟨gw, kp * 2, none⟩))), (fun v _ => v = (.pointer (some ⟨gw, kp * 2 + 1, none⟩))), (fun v _ => v = (.string ⟨p.toArray⟩)), (fun v _ => v = (.int .i64 (t : Int))), (fun v _ => v = (.string ⟨(p.take t).toArray⟩)), (fun v _ => v = (.pointer (some ⟨b, 0, none⟩))), (fun v _ => v = (.pointer (some ⟨b, 0, none⟩))), (fun v _ => v = (.pointer (some ⟨b, 0, none⟩))), (fun v _ => v = (.slice (some ⟨gs, 0, none⟩) st.sure.length cS2)), (fun v _ => v = (.int .i64 (ix : Int))), (fun v _ => v = (.pointer (some ⟨gs, ix, none⟩))), (fun v _ => v = (.string ⟨q.toArray⟩)), (fun v _ => v = (.int .i64 (t : Int))), (fun v _ => v = (.string ⟨(q.drop t).toArray⟩)), (fun v _ => v = (.string ⟨(p.take t ++ q.drop t).toArray⟩)), (fun v _ => v = (.pointer (some ⟨gs, ix, none⟩)))] rfl ⟨?_, ?_, ?_, ?_, ?_, ?_, ?_, ?_, ?_, ?_, ?_, ?_, ?_, ?_, ?_, ?_, ?_, ?_, ?_, ?_, ?_, ?_, trivial⟩ _ rfl ⟨?_, ?_, ?_, ?_, ?_, ?_, ?_, ?_, ?_, ?_, ?_, ?_, ?_, ?_, ?_, ?_, ?_, ?_, ?_, ?_, ?_, ?_, trivial⟩ ?_
            · exact Stable.is _ _
            · exact Stable.is _ _
            · exact Stable.is _ _
            · exact Stable.is _ _
            · exact Stable.is _ _
            · exact Stable.is _ _
            · exact Stable.is _ _
            · exact Stable.is _ _
            · exact Stable.is _ _
            · exact Stable.is _ _
            · exact Stable.is _ _
            · exact Stable.is _ _
            · exact Stable.is _ _
            · exact Stable.is _ _
            · exact Stable.is _ _
            · exact Stable.is _ _
            · exact Stable.is _ _
            · exact Stable.is _ _
            · exact Stable.is _ _
            · exact Stable.is _ _
            · exact Stable.is _ _
            · exact Stable.is _ _
            · intro x wx ox hN TT HTT
              clear hN
              unfold StepTo
              simp only [putAll, Act.put, List.setIfInBounds_toArray, List.set_cons_succ, List.set_cons_zero]
              go_wp2_with fail
              exact ⟨rfl, _, rfl, HTT.out _ _ (rfl) (Only.refl _ _)⟩
            · intro x wx ox hN TT HTT
              have r42 : x 0 = (.pointer (some ⟨b, 0, none⟩)) := hN.1 rfl
              clear hN
              unfold StepTo
              simp only [putAll, Act.put, List.setIfInBounds_toArray, List.set_cons_succ, List.set_cons_zero, r42]
              clear r42
              go_wp2_with fail
              exact ⟨rfl, _, rfl, HTT.out _ _ (rfl) (Only.refl _ _)⟩
            · intro x wx ox hN TT HTT
              have r43 : x 1 = (.pointer (some ⟨b, 0, none⟩)) := hN.1 rfl
              clear hN
              unfold StepTo
              simp only [putAll, Act.put, List.setIfInBounds_toArray, List.set_cons_succ, List.set_cons_zero, r43]
              clear r43
              go_wp2_with fail
              exact ⟨rfl, _, rfl, HTT.out _ _ (rfl) (Only.refl _ _)⟩
            · intro x wx ox hN TT HTT
              have r44 : x 2 = (.pointer (some ⟨b, 0, none⟩)) := hN.1 rfl
              clear hN
              unfold StepTo
              simp only [putAll, Act.put, List.setIfInBounds_toArray, List.set_cons_succ, List.set_cons_zero, r44]
              clear r44
              obtain ⟨g0, g1, g2, g3, g4, g5, g6⟩ := HFA'.out wx (((Only.refl _ w2).drew).trans ox)
              go_wp2_with fail
              exact ⟨rfl, _, rfl, HTT.out _ _ (rfl) (Only.refl _ _)⟩
            · intro x wx ox hN TT HTT
              clear hN
              unfold StepTo
              simp only [putAll, Act.put, List.setIfInBounds_toArray, List.set_cons_succ, List.set_cons_zero]
              go_wp2_with fail
              exact ⟨rfl, _, rfl, HTT.out _ _ (rfl) (Only.refl _ _)⟩
            · intro x wx ox hN TT HTT
              clear hN
              unfold StepTo
              simp only [putAll, Act.put, List.setIfInBounds_toArray, List.set_cons_succ, List.set_cons_zero]
              go_wp2_with fail
              exact ⟨rfl, _, rfl, HTT.out _ _ (rfl) (Only.refl _ _)⟩
            · intro x wx ox hN TT HTT
              have r47 : x 5 = (.slice (some ⟨gw, kp * 2, none⟩) n (cL - kp)) := hN.1 rfl
              clear hN
              unfold StepTo
              simp only [putAll, Act.put, List.setIfInBounds_toArray, List.set_cons_succ, List.set_cons_zero, r47]
              clear r47
              go_wp2_with fail
              exact ⟨rfl, _, rfl, HTT.out _ _ (rfl) (Only.refl _ _)⟩
            · intro x wx ox hN TT HTT
              have r48 : x 6 = (.pointer (some ⟨gw, kp * 2, none⟩)) := hN.1 rfl
              clear hN
              unfold StepTo
              simp only [putAll, Act.put, List.setIfInBounds_toArray, List.set_cons_succ, List.set_cons_zero, r48]
              clear r48
              go_wp2_with fail
              exact ⟨rfl, _, rfl, HTT.out _ _ (rfl) (Only.refl _ _)⟩
            · intro x wx ox hN TT HTT
              have r49 : x 7 = (.pointer (some ⟨gw, kp * 2 + 1, none⟩)) := hN.1 rfl
              clear hN
              unfold StepTo
              simp only [putAll, Act.put, List.setIfInBounds_toArray, List.set_cons_succ, List.set_cons_zero, r49]
              clear r49
              obtain ⟨g0, g1, g2, g3, g4, g5, g6⟩ := HFA'.out wx (((Only.refl _ w2).drew).trans ox)
              go_wp2_with fail
              exact ⟨rfl, _, rfl, HTT.out _ _ (rfl) (Only.refl _ _)⟩
            · intro x wx ox hN TT HTT
              clear hN
              unfold StepTo
              simp only [putAll, Act.put, List.setIfInBounds_toArray, List.set_cons_succ, List.set_cons_zero]
              go_wp2_with fail
              exact ⟨rfl, _, rfl, HTT.out _ _ (rfl) (Only.refl _ _)⟩
            · intro x wx ox hN TT HTT
              have r50 : x 8 = (.string ⟨p.toArray⟩) := hN.1 rfl
              have r51 : x 9 = (.int .i64 (t : Int)) := hN.2.1 rfl
              clear hN
              unfold StepTo
              simp only [putAll, Act.put, List.setIfInBounds_toArray, List.set_cons_succ, List.set_cons_zero, r50, r51]
              clear r50 r51
              have hs := HS1.out wx
              go_wp2_with fail
              exact ⟨rfl, _, rfl, HTT.out _ _ (rfl) (Only.refl _ _)⟩
            · intro x wx ox hN TT HTT
              clear hN
              unfold StepTo
              simp only [putAll, Act.put, List.setIfInBounds_toArray, List.set_cons_succ, List.set_cons_zero]
              go_wp2_with fail
              exact ⟨rfl, _, rfl, HTT.out _ _ (rfl) (Only.refl _ _)⟩
            · intro x wx ox hN TT HTT
              have r53 : x 11 = (.pointer (some ⟨b, 0, none⟩)) := hN.1 rfl
              clear hN
              unfold StepTo
              simp only [putAll, Act.put, List.setIfInBounds_toArray, List.set_cons_succ, List.set_cons_zero, r53]
              clear r53
              go_wp2_with fail
              exact ⟨rfl, _, rfl, HTT.out _ _ (rfl) (Only.refl _ _)⟩
            · intro x wx ox hN TT HTT
              have r54 : x 12 = (.pointer (some ⟨b, 0, none⟩)) := hN.1 rfl
              clear hN
              unfold StepTo
              simp only [putAll, Act.put, List.setIfInBounds_toArray, List.set_cons_succ, List.set_cons_zero, r54]
              clear r54
              go_wp2_with fail
              exact ⟨rfl, _, rfl, HTT.out _ _ (rfl) (Only.refl _ _)⟩
            · intro x wx ox hN TT HTT
              have r55 : x 13 = (.pointer (some ⟨b, 0, none⟩)) := hN.1 rfl
              clear hN
              unfold StepTo
              simp only [putAll, Act.put, List.setIfInBounds_toArray, List.set_cons_succ, List.set_cons_zero, r55]
              clear r55
              obtain ⟨g0, g1, g2, g3, g4, g5, g6⟩ := HFA'.out wx (((Only.refl _ w2).drew).trans ox)
              go_wp2_with fail
              exact ⟨rfl, _, rfl, HTT.out _ _ (rfl) (Only.refl _ _)⟩
            · intro x wx ox hN TT HTT
              clear hN
              unfold StepTo
              simp only [putAll, Act.put, List.setIfInBounds_toArray, List.set_cons_succ, List.set_cons_zero]
              go_wp2_with fail
              exact ⟨rfl, _, rfl, HTT.out _ _ (rfl) (Only.refl _ _)⟩
            · intro x wx ox hN TT HTT
              have r56 : x 14 = (.slice (some ⟨gs, 0, none⟩) st.sure.length cS2) := hN.1 rfl
              have r57 : x 15 = (.int .i64 (ix : Int)) := hN.2.1 rfl
              clear hN
              unfold StepTo
              simp only [putAll, Act.put, List.setIfInBounds_toArray, List.set_cons_succ, List.set_cons_zero, r56, r57]
              clear r56 r57
              go_wp2_with fail
              exact ⟨rfl, _, rfl, HTT.out _ _ (rfl) (Only.refl _ _)⟩
            · intro x wx ox hN TT HTT
              have r58 : x 16 = (.pointer (some ⟨gs, ix, none⟩)) := hN.1 rfl
              clear hN
              unfold StepTo
              simp only [putAll, Act.put, List.setIfInBounds_toArray, List.set_cons_succ, List.set_cons_zero, r58]
              clear r58
              obtain ⟨g0, g1, g2, g3, g4, g5, g6⟩ := HFA'.out wx (((Only.refl _ w2).drew).trans ox)
              go_wp2_with fail
              exact ⟨rfl, _, rfl, HTT.out _ _ (rfl) (Only.refl _ _)⟩
            · intro x wx ox hN TT HTT
              clear hN
              unfold StepTo
              simp only [putAll, Act.put, List.setIfInBounds_toArray, List.set_cons_succ, List.set_cons_zero]
              go_wp2_with fail
              exact ⟨rfl, _, rfl, HTT.out _ _ (rfl) (Only.refl _ _)⟩
            · intro x wx ox hN TT HTT
              have r59 : x 17 = (.string ⟨q.toArray⟩) := hN.1 rfl
              have r60 : x 18 = (.int .i64 (t : Int)) := hN.2.1 rfl
              clear hN
              unfold StepTo
              simp only [putAll, Act.put, List.setIfInBounds_toArray, List.set_cons_succ, List.set_cons_zero, r59, r60]
              clear r59 r60
              have hs := HS2.out wx
              go_wp2_with fail
              exact ⟨rfl, _, rfl, HTT.out _ _ (rfl) (Only.refl _ _)⟩
            · intro x wx ox hN TT HTT
              have r52 : x 10 = (.string ⟨(p.take t).toArray⟩) := hN.1 rfl
              have r61 : x 19 = (.string ⟨(q.drop t).toArray⟩) := hN.2.1 rfl
              clear hN
              unfold StepTo
              simp only [putAll, Act.put, List.setIfInBounds_toArray, List.set_cons_succ, List.set_cons_zero, r52, r61]
              clear r52 r61
              have hbb : min t p.length + (q.length - t) ≤ 9223372036854775807 := by have := HP64.out; have := HQ64.out; omega
              go_wp2_with fail
              exact ⟨rfl, _, rfl, HTT.out _ _ (by rw [← bytes_append]) (Only.refl _ _)⟩
            · intro x wx ox hN TT HTT
              have r45 : x 3 = (.slice (some ⟨gs, 0, none⟩) st.sure.length cS2) := hN.1 rfl
              have r46 : x 4 = (.int .i64 (ix : Int)) := hN.2.1 rfl
              have r42 : x 0 = (.pointer (some ⟨b, 0, none⟩)) := hN.2.2.1 rfl
              have r43 : x 1 = (.pointer (some ⟨b, 0, none⟩)) := hN.2.2.2.1 rfl
              have r44 : x 2 = (.pointer (some ⟨b, 0, none⟩)) := hN.2.2.2.2.1 rfl
              have r47 : x 5 = (.slice (some ⟨gw, kp * 2, none⟩) n (cL - kp)) := hN.2.2.2.2.2.2.2.1 rfl
              have r48 : x 6 = (.pointer (some ⟨gw, kp * 2, none⟩)) := hN.2.2.2.2.2.2.2.2.1 rfl
              have r49 : x 7 = (.pointer (some ⟨gw, kp * 2 + 1, none⟩)) := hN.2.2.2.2.2.2.2.2.2.1 rfl
              have r50 : x 8 = (.string ⟨p.toArray⟩) := hN.2.2.2.2.2.2.2.2.2.2.1 rfl
              have r51 : x 9 = (.int .i64 (t : Int)) := hN.2.2.2.2.2.2.2.2.2.2.2.1 rfl
              have r52 : x 10 = (.string ⟨(p.take t).toArray⟩) := hN.2.2.2.2.2.2.2.2.2.2.2.2.1 rfl
              have r53 : x 11 = (.pointer (some ⟨b, 0, none⟩)) := hN.2.2.2.2.2.2.2.2.2.2.2.2.2.1 rfl
              have r54 : x 12 = (.pointer (some ⟨b, 0, none⟩)) := hN.2.2.2.2.2.2.2.2.2.2.2.2.2.2.1 rfl
              have r55 : x 13 = (.pointer (some ⟨b, 0, none⟩)) := hN.2.2.2.2.2.2.2.2.2.2.2.2.2.2.2.1 rfl
              have r56 : x 14 = (.slice (some ⟨gs, 0, none⟩) st.sure.length cS2) := hN.2.2.2.2.2.2.2.2.2.2.2.2.2.2.2.2.1 rfl
              have r57 : x 15 = (.int .i64 (ix : Int)) := hN.2.2.2.2.2.2.2.2.2.2.2.2.2.2.2.2.2.1 rfl
              have r58 : x 16 = (.pointer (some ⟨gs, ix, none⟩)) := hN.2.2.2.2.2.2.2.2.2.2.2.2.2.2.2.2.2.2.1 rfl
              have r59 : x 17 = (.string ⟨q.toArray⟩) := hN.2.2.2.2.2.2.2.2.2.2.2.2.2.2.2.2.2.2.2.1 rfl
              have r60 : x 18 = (.int .i64 (t : Int)) := hN.2.2.2.2.2.2.2.2.2.2.2.2.2.2.2.2.2.2.2.2.1 rfl
              have r61 : x 19 = (.string ⟨(q.drop t).toArray⟩) := hN.2.2.2.2.2.2.2.2.2.2.2.2.2.2.2.2.2.2.2.2.2.1 rfl
              have r62 : x 20 = (.string ⟨(p.take t ++ q.drop t).toArray⟩) := hN.2.2.2.2.2.2.2.2.2.2.2.2.2.2.2.2.2.2.2.2.2.2.1 rfl
              clear hN
              unfold StepTo
              simp only [putAll, Act.put, List.setIfInBounds_toArray, List.set_cons_succ, List.set_cons_zero, r45, r46, r42, r43, r44, r47, r48, r49, r50, r51, r52, r53, r54, r55, r56, r57, r58, r59, r60, r61, r62]
              clear r45 r46 r42 r43 r44 r47 r48 r49 r50 r51 r52 r53 r54 r55 r56 r57 r58 r59 r60 r61 r62
              go_wp2_with fail
              exact ⟨rfl, _, rfl, HTT.out _ _ (rfl) (Only.refl _ _)⟩
            intro xa wxa oxa hN
            have r42 : xa 0 = (.pointer (some ⟨b, 0, none⟩)) := hN.1
            have r43 : xa 1 = (.pointer (some ⟨b, 0, none⟩)) := hN.2.1
            have r44 : xa 2 = (.pointer (some ⟨b, 0, none⟩)) := hN.2.2.1
            have r45 : xa 3 = (.slice (some ⟨gs, 0, none⟩) st.sure.length cS2) := hN.2.2.2.1
            have r46 : xa 4 = (.int .i64 (ix : Int)) := hN.2.2.2.2.1
            have r47 : xa 5 = (.slice (some ⟨gw, kp * 2, none⟩) n (cL - kp)) := hN.2.2.2.2.2.1
            have r48 : xa 6 = (.pointer (some ⟨gw, kp * 2, none⟩)) := hN.2.2.2.2.2.2.1
            have r49 : xa 7 = (.pointer (some ⟨gw, kp * 2 + 1, none⟩)) := hN.2.2.2.2.2.2.2.1
            have r50 : xa 8 = (.string ⟨p.toArray⟩) := hN.2.2.2.2.2.2.2.2.1
            have r51 : xa 9 = (.int .i64 (t : Int)) := hN.2.2.2.2.2.2.2.2.2.1
            have r52 : xa 10 = (.string ⟨(p.take t).toArray⟩) := hN.2.2.2.2.2.2.2.2.2.2.1
            have r53 : xa 11 = (.pointer (some ⟨b, 0, none⟩)) := hN.2.2.2.2.2.2.2.2.2.2.2.1
            have r54 : xa 12 = (.pointer (some ⟨b, 0, none⟩)) := hN.2.2.2.2.2.2.2.2.2.2.2.2.1
            have r55 : xa 13 = (.pointer (some ⟨b, 0, none⟩)) := hN.2.2.2.2.2.2.2.2.2.2.2.2.2.1
            have r56 : xa 14 = (.slice (some ⟨gs, 0, none⟩) st.sure.length cS2) := hN.2.2.2.2.2.2.2.2.2.2.2.2.2.2.1
            have r57 : xa 15 = (.int .i64 (ix : Int)) := hN.2.2.2.2.2.2.2.2.2.2.2.2.2.2.2.1
            have r58 : xa 16 = (.pointer (some ⟨gs, ix, none⟩)) := hN.2.2.2.2.2.2.2.2.2.2.2.2.2.2.2.2.1
            have r59 : xa 17 = (.string ⟨q.toArray⟩) := hN.2.2.2.2.2.2.2.2.2.2.2.2.2.2.2.2.2.1
            have r60 : xa 18 = (.int .i64 (t : Int)) := hN.2.2.2.2.2.2.2.2.2.2.2.2.2.2.2.2.2.2.1
            have r61 : xa 19 = (.string ⟨(q.drop t).toArray⟩) := hN.2.2.2.2.2.2.2.2.2.2.2.2.2.2.2.2.2.2.2.1
            have r62 : xa 20 = (.string ⟨(p.take t ++ q.drop t).toArray⟩) := hN.2.2.2.2.2.2.2.2.2.2.2.2.2.2.2.2.2.2.2.2.1
            have r63 : xa 21 = (.pointer (some ⟨gs, ix, none⟩)) := hN.2.2.2.2.2.2.2.2.2.2.2.2.2.2.2.2.2.2.2.2.2.1
            clear hN
            simp only [putAll, Act.put, List.setIfInBounds_toArray, List.set_cons_succ, List.set_cons_zero, r42, r43, r44, r45, r46, r47, r48, r49, r50, r51, r52, r53, r54, r55, r56, r57, r58, r59, r60, r61, r62, r63]
            clear r42 r43 r44 r45 r46 r47 r48 r49 r50 r51 r52 r53 r54 r55 r56 r57 r58 r59 r60 r61 r62 r63
            have oa := ((Only.refl (fun _ => False) w2).drew).trans oxa
            obtain ⟨g0, g1, g2, g3, g4, g5, g6⟩ := HFA'.out wxa oa
            obtain ⟨hsr, hgsF⟩ := g0.setSure g1 HIX2.out (p.take t ++ q.drop t) HPT.out
            have hfin : RkAt (((wxa.setCell ⟨gs, ix, none⟩ (.string ⟨(p.take t ++ q.drop t).toArray⟩)).setCell ⟨b, 4, none⟩ (.bool false)).setCell ⟨b, 3, none⟩ (.int .i64 0)) F b (restarted st keep torn) := by rw [HSET2.out]; exact (hsr.setOff false).setArmed 0
            have ofin : Only F w (((wxa.setCell ⟨gs, ix, none⟩ (.string ⟨(p.take t ++ q.drop t).toArray⟩)).setCell ⟨b, 4, none⟩ (.bool false)).setCell ⟨b, 3, none⟩ (.int .i64 0)) :=
              (((O2.out.trans' oa (fun _ _ h => h.elim)).setCell (p := ⟨gs, ix, none⟩) (.inl hgsF) _).setCell (p := ⟨b, 4, none⟩) (.inl HW0.out) _).setCell (p := ⟨b, 3, none⟩) (.inl HW0.out) _
            have HFN := Lib.hid hfin; have HON := Lib.hid ofin
            obtain ⟨_, _, _, _, x0, x1, x2, x3, x4, xz, _, _⟩ := hsr.cells
            clear g0 hsr hfin ofin hgsF g2 g3 x0 x1 x2
            go_wp2_with fail
            go_end0
            exact ⟨rfl, HFN.out, HON.out⟩
          · obtain rfl : kp = st.wait.length := by omega
            clear hset hlt
            have hfin := HNONE.out rfl
            have hwn := H.out.1
            obtain ⟨aR, cR, hR⟩ : ∃ aR cR, sliced aL st.wait.length st.wait.length cL 2 = .slice aR 0 cR := ⟨_, _, by unfold sliced; rw [Nat.sub_self]⟩
            simp only [hR] at hcw
            have HFIN := Lib.hid hfin; have HWN := Lib.hid hwn; clear hfin HNONE hR hwn
            go_wp2_with fail
            refine HD.out.mono ?_
            rintro e w2 ⟨rfl, h2, o2⟩
            have o2F := H.out.touch o2
            obtain ⟨aS2, aL2, cS2, cL2, d0, d1, d2, d3, d4, dz, _, _⟩ := h2.cells
            have H2 := Lib.hid h2; have O2 := Lib.hid o2F; clear h2 o2 o2F hcw
            have hz : ∀ v, RkAt (v) F b (settleD st st.wait.length) → RkAt ((v.setCell ⟨b, 4, none⟩ (.bool false)).setCell ⟨b, 3, none⟩ (.int .i64 0)) F b (restarted st keep torn) := fun v h => by rw [HFIN.out]; exact (h.setOff false).setArmed 0
            have HZ := Lib.hid hz; clear hz
            go_wp2_with fail
            go_end0
            exact ⟨rfl, HZ.out _ H2.out, (O2.out.setCell (p := ⟨b, 4, none⟩) (.inl HWN.out) _).setCell (p := ⟨b, 3, none⟩) (.inl HWN.out) _⟩
end Go.Proofs.Ytlkglhgndfhjeaa
