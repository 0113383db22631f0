/- The document's count of a value's things (ref03.count), and Great. -/
import Derived.Test.YtoojnpafcdaflaaWvb
namespace Go.Proofs.Ytoojnpafcdaflaa
open Go Go.RowKit
set_option linter.unusedVariables false
set_option linter.unusedSimpArgs false

mutual
def cntV : VT → Nat → Int → Int
  | .mk k n s ks vs, d, m => if 60 < d then m + 1 else if m < (ks.length : Int) ∨ m < (vs.length : Int) then m + 1 else cntVs vs d m 1
def cntVs : List VT → Nat → Int → Int → Int
  | [], _, _, c => c
  | v :: vs, d, m, c => if c ≤ m then cntVs vs d m (c + cntV v (d + 1) (m - c)) else c
end
mutual
theorem cntV_le : ∀ (t : VT) (d : Nat) (m : Int), 0 ≤ m → 1 ≤ cntV t d m ∧ cntV t d m ≤ m + 1
  | .mk k n s ks vs, d, m, h => by
    simp only [cntV]
    split
    · omega
    · split
      · omega
      · exact cntVs_le vs d m 1 (by omega) (by omega)
theorem cntVs_le : ∀ (vs : List VT) (d : Nat) (m c : Int), 1 ≤ c → c ≤ m + 1 → 1 ≤ cntVs vs d m c ∧ cntVs vs d m c ≤ m + 1
  | [], d, m, c, h1, h2 => by simp only [cntVs]; omega
  | v :: vs, d, m, c, h1, h2 => by
    simp only [cntVs]
    split
    · rename_i hc
      have := cntV_le v (d + 1) (m - c) (by omega)
      exact cntVs_le vs d m _ (by omega) (by omega)
    · omega
end

set_option maxRecDepth 100000 in
set_option maxHeartbeats 8000000 in
theorem rCount : ∀ (z : Nat) (t : VT), SizeOf.sizeOf t ≤ z → ∀ (G : Nat → Prop) (w : World) (cs : List Value) (d : Nat) (m : Int), ValAt w G t cs → d ≤ 1000 → 0 ≤ m → m ≤ 1000000 →
    Calls Try.prog 60 #[.agg cs.toArray, .int .i64 d, .int .i64 m] w (fun e w' => e = .returned (.int .i64 (cntV t d m)) ∧ Only (fun _ => False) w w') := by
  intro z
  induction z with
  | zero => intro t ht; exfalso; obtain ⟨k, n, s, ks, vs⟩ := t; simp only [VT.mk.sizeOf_spec] at ht; omega
  | succ z ih =>
    intro t ht G w cs d m hv hd hm0 hm1
    obtain ⟨k, n, s, ks, vs⟩ := t
    have IH := Lib.hid ih; clear ih
    have HT := Lib.hid ht; clear ht
    simp only [ValAt] at hv
    obtain ⟨ak, ck, av, cv, rfl, hk, hn, hs, hck, hcv, hK, hV⟩ := hv
    have hwb : ∃ wb, wb = w.alloc (.cells #[.int .u8 k, .int .i64 n, .string ⟨s.toArray⟩, .slice ak ks.length ck, .slice av vs.length cv] 35) := ⟨_, rfl⟩
    obtain ⟨wb, hwb⟩ := hwb
    have ob : Only (fun _ => False) w wb := by rw [hwb]; exact (Only.refl _ w).alloc _
    have hbox : wb.heap[w.heap.size]? = some (.cells #[.int .u8 k, .int .i64 n, .string ⟨s.toArray⟩, .slice ak ks.length ck, .slice av vs.length cv] 35 (0, 0)) := by rw [hwb]; exact heap_new w _
    have hkeep : ∀ w', Only (fun _ => False) wb w' → w'.heap[w.heap.size]? = some (.cells #[.int .u8 k, .int .i64 n, .string ⟨s.toArray⟩, .slice ak ks.length ck, .slice av vs.length cv] 35 (0, 0)) := fun w' ho => by
      rw [ho.block _ (Array.getElem?_eq_some_iff.1 hbox).1 (fun h => h)]; exact hbox
    obtain ⟨c0, c1, c2, c3, c4⟩ := box_cells hbox
    rw [hwb] at c0 c1 c2 c3 c4
    have HKEEP := Lib.hid hkeep; have HOB := Lib.hid ob; have HV := Lib.hid hV; have HWB := Lib.hid hwb
    clear hkeep ob hK hV hbox hwb
    have hvl0 : (0 : Int) ≤ (vs.length : Int) := by omega
    have hkl0 : (0 : Int) ≤ (ks.length : Int) := by omega
    simp only [cntV]
    by_cases hd60 : 60 < d
    · have t0 : decide ((60 : Int) < (d : Int)) = true := by simp; omega
      rw [if_pos hd60]
      go_enter Try.func60, Try.ntmps60
      go_wp2_with fail
      go_ret
      rw [← HWB.out]
      exact ⟨rfl, HOB.out⟩
    · have t0 : decide ((60 : Int) < (d : Int)) = false := by simp; omega
      rw [if_neg hd60]
      by_cases hg : m < (ks.length : Int) ∨ m < (vs.length : Int)
      · rw [if_pos hg]
        have t1 : decide (m < (ks.length : Int)) = true ∨ (decide (m < (ks.length : Int)) = false ∧ decide (m < (vs.length : Int)) = true) := by
          simp only [decide_eq_true_eq, decide_eq_false_iff_not]; omega
        clear hg
        rcases t1 with t1 | ⟨t1, t2⟩
        all_goals
          go_enter Try.func60, Try.ntmps60
          go_wp2_with fail
          go_ret
          rw [← HWB.out]
          exact ⟨rfl, HOB.out⟩
      · rw [if_neg hg]
        have t1 : decide (m < (ks.length : Int)) = false := by simp; omega
        have t2 : decide (m < (vs.length : Int)) = false := by simp; omega
        clear hg
        go_enter Try.func60, Try.ntmps60
        go_wp2_with fail
        rw [← HWB.out]
        go_loopw [7, 8] (fun p v wr => ∃ (i : Nat) (c : Int), p = .int .i64 c ∧ v = .int .i64 (i : Int) ∧ i ≤ vs.length ∧ 1 ≤ c ∧ c ≤ m + 1 ∧ cntVs (vs.drop i) d m c = cntVs vs d m 1 ∧ Hid (Only (fun _ => False) wb wr)) (fun _ v _ => vs.length - (intOf v).toNat)
        case atStart => exact ⟨0, 1, rfl, by simp, by omega, by omega, by omega, by simp, Lib.hid (Only.refl _ _)⟩
        case round =>
          obtain ⟨i, c, rfl, rfl, hi, hc1, hc2, hcv, HO⟩ := hrel
          obtain ⟨c0, c1, c2, c3, c4⟩ := box_cells (HKEEP.out _ HO.out)
          have HCV := Lib.hid hcv; clear hcv
          by_cases hlt : i < vs.length
          · have t3 : decide ((i : Int) < (vs.length : Int)) = true := by simpa using hlt
            by_cases hcm : c ≤ m
            · have t4 : decide (c ≤ m) = true := by simpa using hcm
              have hi0 : (0 : Int) ≤ (i : Int) := by omega
              have hi1 : (i : Int) < (vs.length : Int) := by omega
              obtain ⟨bv, offv, hav, hGv, hbv, hvals⟩ := HV.out (by omega)
              subst hav
              obtain ⟨cs, hcl, hcr, hcv'⟩ := valsAt_get hvals i hlt
              obtain ⟨k', n', s', ak', lk', ck', av', lv', cv', rfl⟩ := valAt_form hcv'
              have oww : Only (fun _ => False) w wr := HOB.out.trans HO.out
              have hrg := range_only hcr hbv oww (fun h => h)
              have hv9 := valAt_only (S := fun _ => False) oww (fun _ _ h => h) vs[i] _ hcv'
              have hrec := IH.out vs[i] (by have h1 := sizeOf_get (k := k) (n := n) (s := s) (ks := ks) i hlt; have h2 := HT.out; omega) G wr _ (d + 1) (m - c) hv9 (by omega) (by omega) (by omega)
              have hb := cntV_le vs[i] (d + 1) (m - c) (by omega)
              have hnx : cntVs (vs.drop (i + 1)) d m (c + cntV vs[i] (d + 1) (m - c)) = cntVs vs d m 1 := by
                have h := HCV.out
                rw [List.drop_eq_getElem_cons hlt] at h
                simp only [cntVs] at h
                rw [if_pos hcm] at h
                exact h
              rw [Int.natCast_add] at hrec
              have HREC := Lib.hid hrec; have HRG := Lib.hid hrg; have HNX := Lib.hid hnx; clear hrec hrg hv9 hcr hcv' oww hvals hcl hnx
              go_upto_region 9 with (fail)
              refine wp_region_lit ?_
              iterate 5 (refine wpList_plain rfl fun J hJ => ?_; go_simp; refine hJ _ _ ?_; clear hJ J)
              refine wpList_load_mid rfl 35 (.tmp 43) rfl bv (offv + i * 5) (by rfl) [.int .u8 k', .int .i64 n', .string ⟨s'.toArray⟩, .slice ak' lk' ck', .slice av' lv' cv'] _ HRG.out Try.underlying35 rfl (by kernel_rfl) ?_
              go_wp2_with fail
              refine HREC.out.mono ?_
              rintro e w7 ⟨rfl, o7⟩
              have O7 := Lib.hid o7; clear o7
              go_wp2_with fail
              go_roundw
              case rel => exact ⟨i + 1, _, rfl, by simp [go_sem], by omega, by omega, by omega, HNX.out, Lib.hid (HO.out.trans O7.out)⟩
              case measure => simp [intOf]; omega
            · have t4 : decide (c ≤ m) = false := by simpa using hcm
              go_wp2_with fail
              go_ret
              refine ⟨?_, HOB.out.trans HO.out⟩
              have h := HCV.out
              rw [List.drop_eq_getElem_cons hlt] at h
              simp only [cntVs] at h
              rw [if_neg (by omega)] at h
              rw [← h]
              rfl
          · have hke : i = vs.length := by omega
            subst hke
            have t3 : decide ((vs.length : Int) < (vs.length : Int)) = false := by simp
            go_wp2_with fail
            go_ret
            refine ⟨?_, HOB.out.trans HO.out⟩
            have h := HCV.out
            rw [List.drop_length] at h
            simp only [cntVs] at h
            rw [← h]
            rfl

def greatV (t : VT) : Bool := decide (3000 < cntV t 0 3000)
theorem rGreat (t : VT) (G : Nat → Prop) (w : World) (cs : List Value) (hv : ValAt w G t cs) :
    Calls Try.prog 23 #[.agg cs.toArray] w (fun e w' => e = .returned (.bool (greatV t)) ∧ Only (fun _ => False) w w') := by
  have hv' := hv
  obtain ⟨k, n, s, ak, lk, ck, av, lv, cv, rfl⟩ := valAt_form hv
  have hwb : ∃ wb, wb = w.alloc (.cells #[.int .u8 k, .int .i64 n, .string ⟨s.toArray⟩, .slice ak lk ck, .slice av lv cv] 35) := ⟨_, rfl⟩
  obtain ⟨wb, hwb⟩ := hwb
  have ob : Only (fun _ => False) w wb := by rw [hwb]; exact (Only.refl _ w).alloc _
  have h := rCount (SizeOf.sizeOf t) t (Nat.le_refl _) G wb _ 0 3000 (valAt_only ob (fun _ _ h => h) t _ hv') (by omega) (by omega) (by omega)
  rw [hwb] at h ob
  have H := Lib.hid h; have OB := Lib.hid ob; clear h ob hwb hv hv'
  go_enter Try.func23, Try.ntmps23
  go_wp2_with fail
  refine H.out.mono ?_
  rintro e w7 ⟨rfl, o7⟩
  have O7 := Lib.hid o7; clear o7
  go_wp2_with fail
  go_ret
  exact ⟨rfl, OB.out.trans O7.out⟩
end Go.Proofs.Ytoojnpafcdaflaa
