/- Same: two values are one: the document's (ref03.Same). -/
import Derived.Test.YtoojnpafcdaflaaFrrZ
import Derived.StillTailTactics
namespace Go.Proofs.Ytoojnpafcdaflaa
open Go Go.RowKit
set_option linter.unusedVariables false
set_option linter.unusedSimpArgs false

mutual
def sameV : VT → VT → Bool
  | .mk k n s ks vs, .mk k' n' s' ks' vs' => if k = k' then if n = n' then if s = s' then if ks.length = ks'.length then if vs.length = vs'.length then if ks = ks' then sameVs vs vs' else false else false else false else false else false else false
def sameVs : List VT → List VT → Bool
  | [], [] => true
  | v :: vs, v' :: vs' => if sameV v v' then sameVs vs vs' else false
  | _, _ => false
end
mutual
theorem sameV_refl : ∀ (t : VT), sameV t t = true
  | .mk k n s ks vs => by simp only [sameV, if_true]; exact sameVs_refl vs
theorem sameVs_refl : ∀ (vs : List VT), sameVs vs vs = true
  | [] => by simp only [sameVs]
  | v :: vs => by simp only [sameVs]; rw [sameV_refl v, if_pos rfl]; exact sameVs_refl vs
end
mutual
theorem sameV_eq : ∀ (t u : VT), sameV t u = true → t = u
  | .mk k n s ks vs, .mk k' n' s' ks' vs', h => by
    simp only [sameV] at h
    split at h
    · split at h
      · split at h
        · split at h
          · split at h
            · split at h
              · have := sameVs_eq vs vs' h
                subst_vars; rfl
              · cases h
            · cases h
          · cases h
        · cases h
      · cases h
    · cases h
theorem sameVs_eq : ∀ (vs us : List VT), sameVs vs us = true → vs = us
  | [], [], _ => rfl
  | [], u :: us, h => by simp only [sameVs] at h; cases h
  | v :: vs, [], h => by simp only [sameVs] at h; cases h
  | v :: vs, u :: us, h => by
    simp only [sameVs] at h
    split at h
    · rename_i hv
      rw [sameV_eq v u hv, sameVs_eq vs us h]
    · cases h
end
theorem sameVs_drop (vs us : List VT) (i : Nat) (h : i < vs.length) (h' : i < us.length) : sameVs (vs.drop i) (us.drop i) = if sameV vs[i] us[i] then sameVs (vs.drop (i + 1)) (us.drop (i + 1)) else false := by
  rw [List.drop_eq_getElem_cons h, List.drop_eq_getElem_cons h']
  simp only [sameVs]

def SameIH (f : FuncId) (z : Nat) : Prop := ∀ (t u : VT), SizeOf.sizeOf t ≤ z → ∀ (G G' : Nat → Prop) (w : World) (cs ds : List Value), ValAt w G t cs → ValAt w G' u ds →
    Calls Try.prog f #[.agg cs.toArray, .agg ds.toArray] w (fun e w' => e = .returned (.bool (sameV t u)) ∧ Only (fun _ => False) w w')

theorem eq_of_take {α : Type} {xs ys : List α} (hl : xs.length = ys.length) (h : xs.take xs.length = ys.take xs.length) : xs = ys := by
  rw [List.take_length, hl, List.take_length] at h; exact h
theorem take_snoc_eq {α : Type} {xs ys : List α} {i : Nat} (hi : i < xs.length) (hi' : i < ys.length) (h : xs.take i = ys.take i) (he : xs[i] = ys[i]) : xs.take (i + 1) = ys.take (i + 1) := by
  rw [List.take_succ_eq_append_getElem hi, List.take_succ_eq_append_getElem hi', h, he]

set_option maxRecDepth 100000 in
set_option maxHeartbeats 8000000 in
theorem rSame_step (z : Nat) (ih : SameIH 38 z) : SameIH 38 (z + 1) := by
  intro t u ht G G' w cs ds hv hu
  obtain ⟨k, n, s, ks, vs⟩ := t
  obtain ⟨k2, n2, s2, ks2, vs2⟩ := u
  have IH := Lib.hid ih; clear ih
  have HT := Lib.hid ht; clear ht
  simp only [ValAt] at hv hu
  obtain ⟨ak, ck, av, cv, rfl, hk, hn, hs, hck, hcv, hK, hV⟩ := hv
  obtain ⟨bk, dk, bv, dv, rfl, hk2, hn2, hs2, hdk, hdv, hK2, hV2⟩ := hu
  simp only [sameV]
  obtain ⟨lv, hlv⟩ : ∃ lv, lv = vs.length := ⟨_, rfl⟩
  obtain ⟨lk, hlk⟩ : ∃ lk, lk = ks.length := ⟨_, rfl⟩
  obtain ⟨mv, hmv⟩ : ∃ lv, lv = vs2.length := ⟨_, rfl⟩
  obtain ⟨mk, hmk⟩ : ∃ lk, lk = ks2.length := ⟨_, rfl⟩
  rw [← hlv] at hcv ⊢
  rw [← hlk] at hck ⊢
  rw [← hmv] at hdv ⊢
  rw [← hmk] at hdk ⊢
  have HLV := Lib.hid hlv; have HLK := Lib.hid hlk; have HMV := Lib.hid hmv; have HMK := Lib.hid hmk; clear hlv hlk hmv hmk
  have hwb : ∃ wb, wb = (w.alloc (.cells #[.int .u8 k, .int .i64 n, .string ⟨s.toArray⟩, .slice ak lk ck, .slice av lv cv] 35)).alloc (.cells #[.int .u8 k2, .int .i64 n2, .string ⟨s2.toArray⟩, .slice bk mk dk, .slice bv mv dv] 35) := ⟨_, rfl⟩
  obtain ⟨wb, hwb⟩ := hwb
  have ob : Only (fun _ => False) w wb := by rw [hwb]; exact ((Only.refl _ w).alloc _).alloc _
  have hbox : wb.heap[w.heap.size]? = some (.cells #[.int .u8 k, .int .i64 n, .string ⟨s.toArray⟩, .slice ak lk ck, .slice av lv cv] 35 (0, 0)) := by rw [hwb]; exact heap_old (heap_new w _) _
  have hbox2 : wb.heap[w.heap.size + 1]? = some (.cells #[.int .u8 k2, .int .i64 n2, .string ⟨s2.toArray⟩, .slice bk mk dk, .slice bv mv dv] 35 (0, 0)) := by rw [hwb]; have := heap_new (w.alloc (.cells #[.int .u8 k, .int .i64 n, .string ⟨s.toArray⟩, .slice ak lk ck, .slice av lv cv] 35)) (.cells #[.int .u8 k2, .int .i64 n2, .string ⟨s2.toArray⟩, .slice bk mk dk, .slice bv mv dv] 35); rw [World.size_alloc] at this; exact this
  have hkeep : ∀ w', Only (fun _ => False) wb w' → w'.heap[w.heap.size]? = some (.cells #[.int .u8 k, .int .i64 n, .string ⟨s.toArray⟩, .slice ak lk ck, .slice av lv cv] 35 (0, 0)) ∧ w'.heap[w.heap.size + 1]? = some (.cells #[.int .u8 k2, .int .i64 n2, .string ⟨s2.toArray⟩, .slice bk mk dk, .slice bv mv dv] 35 (0, 0)) := fun w' ho => by
    rw [ho.block _ (Array.getElem?_eq_some_iff.1 hbox).1 (fun h => h), ho.block _ (Array.getElem?_eq_some_iff.1 hbox2).1 (fun h => h)]; exact ⟨hbox, hbox2⟩
  obtain ⟨c0, c1, c2, c3, c4⟩ := box_cells hbox
  obtain ⟨d0, d1, d2, d3, d4⟩ := box_cells hbox2
  rw [hwb] at c0 c1 c2 c3 c4 d0 d1 d2 d3 d4
  have HKEEP := Lib.hid hkeep; have HOB := Lib.hid ob; have HV := Lib.hid hV; have HK := Lib.hid hK; have HV2 := Lib.hid hV2; have HK2 := Lib.hid hK2; have HWB := Lib.hid hwb
  clear hkeep ob hK hV hK2 hV2 hbox hbox2 hwb
  have hvl0 : (0 : Int) ≤ (lv : Int) := by omega
  have hkl0 : (0 : Int) ≤ (lk : Int) := by omega
  by_cases q1 : k = k2
  rotate_left
  · have t1 : ((k : Int) != (k2 : Int)) = true := by simp; omega
    have t2 : ((k : Int) == (k2 : Int)) = false := by simp; omega
    have t3 : (k != k2) = true := by simp; omega
    have t4 : (k == k2) = false := by simp; omega
    rw [if_neg q1]
    clear q1
    go_enter Try.func38, Try.ntmps38
    go_wp2_with fail
    go_ret
    rw [← HWB.out]
    exact ⟨rfl, HOB.out⟩
  subst q1
  rw [if_pos rfl]
  by_cases q1 : n = n2
  rotate_left
  · have t1 : (n != n2) = true := by simp; omega
    have t2 : (n == n2) = false := by simp; omega
    rw [if_neg q1]
    clear q1
    go_enter Try.func38, Try.ntmps38
    go_wp2_with fail
    go_ret
    rw [← HWB.out]
    exact ⟨rfl, HOB.out⟩
  subst q1
  rw [if_pos rfl]
  by_cases q1 : s = s2
  rotate_left
  · have t1 : (s != s2) = true := by simpa using q1
    have t2 : (s == s2) = false := by simpa using q1
    rw [if_neg q1]
    clear q1
    go_enter Try.func38, Try.ntmps38
    go_wp2_with fail
    go_ret
    rw [← HWB.out]
    exact ⟨rfl, HOB.out⟩
  subst q1
  rw [if_pos rfl]
  by_cases q1 : lk = mk
  rotate_left
  · have t1 : ((lk : Int) != (mk : Int)) = true := by simp; omega
    have t2 : ((lk : Int) == (mk : Int)) = false := by simp; omega
    have t3 : (lk != mk) = true := by simp; omega
    have t4 : (lk == mk) = false := by simp; omega
    rw [if_neg q1]
    clear q1
    go_enter Try.func38, Try.ntmps38
    go_wp2_with fail
    go_ret
    rw [← HWB.out]
    exact ⟨rfl, HOB.out⟩
  subst q1
  rw [if_pos rfl]
  by_cases q1 : lv = mv
  rotate_left
  · have t1 : ((lv : Int) != (mv : Int)) = true := by simp; omega
    have t2 : ((lv : Int) == (mv : Int)) = false := by simp; omega
    have t3 : (lv != mv) = true := by simp; omega
    have t4 : (lv == mv) = false := by simp; omega
    rw [if_neg q1]
    clear q1
    go_enter Try.func38, Try.ntmps38
    go_wp2_with fail
    go_ret
    rw [← HWB.out]
    exact ⟨rfl, HOB.out⟩
  subst q1
  rw [if_pos rfl]
  obtain ⟨res, hres⟩ : ∃ r, r = (if ks = ks2 then sameVs vs vs2 else false) := ⟨_, rfl⟩
  rw [← hres]
  have HRES := Lib.hid hres; clear hres
  go_enter Try.func38, Try.ntmps38
  go_wp2_with fail
  rw [← HWB.out]
  go_loopw [5] (fun v wr => ∃ i : Nat, v = .int .i64 (i : Int) ∧ i ≤ lk ∧ Hid (ks.take i = ks2.take i) ∧ Hid (Only (fun _ => False) wb wr)) (fun v _ => lk - (intOf v).toNat)
  case atStart => exact ⟨0, by simp, by omega, Lib.hid (by simp), Lib.hid (Only.refl _ _)⟩
  case round =>
    obtain ⟨i, rfl, hi, HF, HO⟩ := hrel
    obtain ⟨c0, c1, c2, c3, c4⟩ := box_cells (HKEEP.out _ HO.out).1
    obtain ⟨d0, d1, d2, d3, d4⟩ := box_cells (HKEEP.out _ HO.out).2
    by_cases hlt : i < lk
    · have t3 : decide ((i : Int) < (lk : Int)) = true := by simpa using hlt
      have hi0 : (0 : Int) ≤ (i : Int) := by omega
      have hi1 : (i : Int) < (lk : Int) := by omega
      have hki : i < ks.length := by rw [← HLK.out]; exact hlt
      have hki2 : i < ks2.length := by rw [← HMK.out]; exact hlt
      obtain ⟨gk, ok, hak, hGk, hbk, hkr⟩ := HK.out (by omega)
      subst hak
      obtain ⟨gk2, ok2, hak2, hGk2, hbk2, hkr2⟩ := HK2.out (by omega)
      subst hak2
      have oww : Only (fun _ => False) w wr := HOB.out.trans HO.out
      have hkc : wr.cell? ⟨gk, ok + i, none⟩ = some (.string ⟨(ks[i]).toArray⟩) := range_only hkr hbk oww (fun h => h) i (strV ks[i]) (by simp [hki])
      have hkc2 : wr.cell? ⟨gk2, ok2 + i, none⟩ = some (.string ⟨(ks2[i]).toArray⟩) := range_only hkr2 hbk2 oww (fun h => h) i (strV ks2[i]) (by simp [hki2])
      have hstep := take_snoc_eq hki hki2 HF.out
      have hne : ks[i] ≠ ks2[i] → ks ≠ ks2 := fun h e => by subst e; exact h rfl
      generalize ks[i] = ki at *
      generalize ks2[i] = ki2 at *
      have HST := Lib.hid hstep; have HNE := Lib.hid hne; clear hstep hne hkr hkr2
      by_cases hE : ki = ki2
      · subst hE
        clear HNE
        go_wp2_with fail
        go_quiet (fail)
        go_wp2_with fail
        go_roundw
        case rel => exact ⟨i + 1, by simp [go_sem], by omega, Lib.hid (by first | exact HST.out rfl | exact HST.out trivial), Lib.hid (HO.out.trans ((Only.refl _ _).drewN _))⟩
        case measure => simp [intOf]; omega
      · have t1 : (ki != ki2) = true := by simpa using hE
        have t2 : (ki == ki2) = false := by simpa using hE
        have HE := Lib.hid hE; clear hE
        go_wp2_with fail
        go_quiet (fail)
        go_wp2_with fail
        go_ret
        exact ⟨by rw [HRES.out, if_neg (HNE.out HE.out)]; rfl, (HOB.out.trans HO.out).trans ((Only.refl _ _).drewN _)⟩
    · have hke : i = lk := by omega
      subst hke
      have t3 : decide ((i : Int) < (i : Int)) = false := by simp
      have hall : ks = ks2 := eq_of_take (by rw [← HLK.out, ← HMK.out]) (by have := HF.out; rw [HLK.out] at this; exact this)
      have hres := HRES.out
      rw [if_pos hall] at hres
      clear HRES
      have HRES := Lib.hid hres; clear hall HF hres
      go_wp2_with fail
      obtain ⟨wo, hwo⟩ : ∃ wo : World, wo = wr := ⟨_, rfl⟩
      subst hwo
      go_loopw [6] (fun v wr => ∃ j : Nat, v = .int .i64 (j : Int) ∧ j ≤ lv ∧ Hid (sameVs (vs.drop j) (vs2.drop j) = sameVs vs vs2) ∧ Hid (Only (fun _ => False) wb wr)) (fun v _ => lv - (intOf v).toNat)
      case atStart => exact ⟨0, by simp, by omega, Lib.hid (by simp), HO⟩
      case round =>
        obtain ⟨j, rfl, hj, HF, HP⟩ := hrel
        clear c0 c1 c2 c3 c4 d0 d1 d2 d3 d4
        obtain ⟨c0, c1, c2, c3, c4⟩ := box_cells (HKEEP.out _ HP.out).1
        obtain ⟨d0, d1, d2, d3, d4⟩ := box_cells (HKEEP.out _ HP.out).2
        by_cases hlt : j < lv
        · have t4 : decide ((j : Int) < (lv : Int)) = true := by simpa using hlt
          have hj0 : (0 : Int) ≤ (j : Int) := by omega
          have hj1 : (j : Int) < (lv : Int) := by omega
          have hvi : j < vs.length := by rw [← HLV.out]; exact hlt
          have hvi2 : j < vs2.length := by rw [← HMV.out]; exact hlt
          obtain ⟨gv, ov, hav, hGv, hbv, hvals⟩ := HV.out (by omega)
          subst hav
          obtain ⟨gv2, ov2, hav2, hGv2, hbv2, hvals2⟩ := HV2.out (by omega)
          subst hav2
          obtain ⟨cs, hcl, hcr, hcv'⟩ := valsAt_get hvals j hvi
          obtain ⟨k', n', s', ak', lk', ck', av', lv', cv', rfl⟩ := valAt_form hcv'
          obtain ⟨cs2, hcl2, hcr2, hcv2⟩ := valsAt_get hvals2 j hvi2
          obtain ⟨k'', n'', s'', ak'', lk'', ck'', av'', lv'', cv'', rfl⟩ := valAt_form hcv2
          have oww : Only (fun _ => False) w wr := HOB.out.trans HP.out
          have hrg := range_only hcr hbv oww (fun h => h)
          have hrg2 := range_only hcr2 hbv2 oww (fun h => h)
          have owd : Only (fun _ => False) w wr.drew := oww.drew
          have hrec := IH.out vs[j] vs2[j] (by have h1 := sizeOf_get (k := k) (n := n) (s := s) (ks := ks) j hvi; have h2 := HT.out; omega) G G' wr.drew _ _ (valAt_only (S := fun _ => False) owd (fun _ _ h => h) _ _ hcv') (valAt_only (S := fun _ => False) owd (fun _ _ h => h) _ _ hcv2)
          have hnx := HF.out
          rw [sameVs_drop vs vs2 j hvi hvi2] at hnx
          obtain ⟨e0, e1, e2, e3, e4⟩ := range5 hrg
          obtain ⟨f0, f1, f2, f3, f4⟩ := range5 hrg2
          have hr : sameV vs[j] vs2[j] = true ∨ sameV vs[j] vs2[j] = false := by cases sameV vs[j] vs2[j] <;> simp
          generalize sameV vs[j] vs2[j] = sv at *
          have HREC := Lib.hid hrec; have HNX := Lib.hid hnx; clear hrec hnx hrg hrg2 hcr hcr2 hcv' hcv2 hcl hcl2 hvals hvals2 oww owd
          rcases hr with rfl | rfl
          · go_wp2_with fail
            go_still_tail 10, (by kernel_rfl)
            change wpList _ _ _ _ _ wr.drew
            go_wp2_with fail
            refine HREC.out.mono ?_
            rintro e w7 ⟨rfl, o7⟩
            have O7 := Lib.hid ((Only.refl (fun _ => False) wr).drew.trans o7); clear o7
            go_wp2_with fail
            go_roundw
            case rel => exact ⟨j + 1, by simp [go_sem], by omega, Lib.hid (by first | exact HNX.out | (have h := HNX.out; simpa using h)), Lib.hid (HP.out.trans O7.out)⟩
            case measure => simp [intOf]; omega
          · go_wp2_with fail
            go_still_tail 10, (by kernel_rfl)
            change wpList _ _ _ _ _ wr.drew
            go_wp2_with fail
            refine HREC.out.mono ?_
            rintro e w7 ⟨rfl, o7⟩
            have O7 := Lib.hid ((Only.refl (fun _ => False) wr).drew.trans o7); clear o7
            go_wp2_with fail
            go_ret
            have h := HNX.out
            exact ⟨by rw [HRES.out, ← h]; rfl, (HOB.out.trans HP.out).trans O7.out⟩
        · have hke : j = lv := by omega
          subst hke
          have t4 : decide ((j : Int) < (j : Int)) = false := by simp
          go_wp2_with fail
          go_ret
          refine ⟨?_, HOB.out.trans HP.out⟩
          have h := HF.out
          rw [show vs.drop j = [] from List.drop_eq_nil_of_le (by rw [← HLV.out]; omega), show vs2.drop j = [] from List.drop_eq_nil_of_le (by rw [← HMV.out]; omega)] at h
          simp only [sameVs] at h
          rw [HRES.out, ← h]; rfl
theorem rSame : ∀ z, SameIH 38 z
  | 0 => fun t u ht => by exfalso; obtain ⟨k, n, s, ks, vs⟩ := t; simp only [VT.mk.sizeOf_spec] at ht; omega
  | z + 1 => rSame_step z (rSame z)
end Go.Proofs.Ytoojnpafcdaflaa
