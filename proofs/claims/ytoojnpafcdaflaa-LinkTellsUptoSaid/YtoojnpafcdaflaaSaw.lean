/- Same: the program's (wire.Same), with slices.Equal and slices.EqualFunc. -/
import Derived.Test.YtoojnpafcdaflaaSam
namespace Go.Proofs.Ytoojnpafcdaflaa
open Go Go.RowKit
set_option linter.unusedVariables false
set_option linter.unusedSimpArgs false

/-- A row of texts. -/
def TextsAt (w : World) (a : Option Addr) (ks : List (List UInt8)) : Prop := 0 < ks.length → ∃ b off, a = some ⟨b, off, none⟩ ∧ b < w.heap.size ∧ w.rangeAt b off (ks.map strV)
theorem TextsAt.still {w w' : World} {a : Option Addr} {ks : List (List UInt8)} (h : TextsAt w a ks) (ho : Only (fun _ => False) w w') : TextsAt w' a ks := fun hp => by
  obtain ⟨b, off, e, hb, hr⟩ := h hp
  exact ⟨b, off, e, Nat.lt_of_lt_of_le hb ho.size, range_only hr hb ho (fun h => h)⟩
set_option maxRecDepth 100000 in
theorem equalS (a b : Option Addr) (ca cb : Nat) (ks ks2 : List (List UInt8)) (w : World) (h : TextsAt w a ks) (h2 : TextsAt w b ks2) (hl : ks.length ≤ 9223372036854775807) (hl2 : ks2.length ≤ 9223372036854775807) :
    Calls Try.prog 61 #[.slice a ks.length ca, .slice b ks2.length cb] w (fun e w' => e = .returned (.bool (decide (ks = ks2))) ∧ Only (fun _ => False) w w') := by
  obtain ⟨lk, hlk⟩ : ∃ lk, lk = ks.length := ⟨_, rfl⟩
  obtain ⟨mk, hmk⟩ : ∃ lk, lk = ks2.length := ⟨_, rfl⟩
  rw [← hlk] at hl ⊢
  rw [← hmk] at hl2 ⊢
  have HLK := Lib.hid hlk; have HMK := Lib.hid hmk; have HK := Lib.hid h; have HK2 := Lib.hid h2; clear hlk hmk h h2
  by_cases q1 : lk = mk
  rotate_left
  · have t1 : ((lk : Int) != (mk : Int)) = true := by simp; omega
    have t2 : ((lk : Int) == (mk : Int)) = false := by simp; omega
    have t3 : (lk != mk) = true := by simp; omega
    have t4 : (lk == mk) = false := by simp; omega
    have hres : decide (ks = ks2) = false := by simp; intro e; apply q1; rw [HLK.out, HMK.out, e]
    rw [hres]
    clear hres q1
    go_enter Try.func61, Try.ntmps61
    go_wp2_with fail
    go_ret
    exact ⟨rfl, Only.refl _ _⟩
  subst q1
  obtain ⟨res, hres⟩ : ∃ r, r = decide (ks = ks2) := ⟨_, rfl⟩
  rw [← hres]
  have HRES := Lib.hid hres; clear hres
  go_enter Try.func61, Try.ntmps61
  go_wp2_with fail
  go_loopw [13] (fun v wr => ∃ i : Nat, v = .int .i64 (i : Int) ∧ i ≤ lk ∧ Hid (ks.take i = ks2.take i) ∧ Hid (Only (fun _ => False) w wr)) (fun v _ => lk - (intOf v).toNat)
  case atStart => exact ⟨0, by simp, by omega, Lib.hid (by simp), Lib.hid (Only.refl _ _)⟩
  case round =>
    obtain ⟨i, rfl, hi, HF, HO⟩ := hrel
    by_cases hlt : i < lk
    · have t3 : decide ((i : Int) < (lk : Int)) = true := by simpa using hlt
      have hi0 : (0 : Int) ≤ (i : Int) := by omega
      have hi1 : (i : Int) < (lk : Int) := by omega
      have hki : i < ks.length := by rw [← HLK.out]; exact hlt
      have hki2 : i < ks2.length := by rw [← HMK.out]; exact hlt
      obtain ⟨gk, ok, hak, hbk, hkr⟩ := HK.out (by omega)
      subst hak
      obtain ⟨gk2, ok2, hak2, hbk2, hkr2⟩ := HK2.out (by omega)
      subst hak2
      have hkc : wr.cell? ⟨gk, ok + i, none⟩ = some (.string ⟨(ks[i]).toArray⟩) := range_only hkr hbk HO.out (fun h => h) i (strV ks[i]) (by simp [hki])
      have hkc2 : wr.cell? ⟨gk2, ok2 + i, none⟩ = some (.string ⟨(ks2[i]).toArray⟩) := range_only hkr2 hbk2 HO.out (fun h => h) i (strV ks2[i]) (by simp [hki2])
      have hstep := take_snoc_eq hki hki2 HF.out
      have hne : ks[i] ≠ ks2[i] → ks ≠ ks2 := fun h e => by subst e; exact h rfl
      generalize ks[i] = ki at *
      generalize ks2[i] = ki2 at *
      have HST := Lib.hid hstep; have HNE := Lib.hid hne; clear hstep hne hkr hkr2
      by_cases hE : ki = ki2
      · subst hE
        clear HNE
        go_wp2_with fail
        go_quiet (fail)
        go_wp2_with fail
        go_roundw
        case rel => exact ⟨i + 1, by simp [go_sem], by omega, Lib.hid (by first | exact HST.out rfl | exact HST.out trivial), Lib.hid (HO.out.trans ((Only.refl _ _).drewN _))⟩
        case measure => simp [intOf]; omega
      · have t1 : (ki != ki2) = true := by simpa using hE
        have t2 : (ki == ki2) = false := by simpa using hE
        have HE := Lib.hid hE; clear hE
        go_wp2_with fail
        go_quiet (fail)
        go_wp2_with fail
        go_ret
        exact ⟨by rw [HRES.out, decide_eq_false (HNE.out HE.out)]; rfl, HO.out.trans ((Only.refl _ _).drewN _)⟩
    · have hke : i = lk := by omega
      subst hke
      have t3 : decide ((i : Int) < (i : Int)) = false := by simp
      have hall : ks = ks2 := eq_of_take (by rw [← HLK.out, ← HMK.out]) (by have := HF.out; rw [HLK.out] at this; exact this)
      have HALL := Lib.hid hall; clear hall
      go_wp2_with fail
      go_ret
      exact ⟨by rw [HRES.out, decide_eq_true HALL.out]; rfl, HO.out⟩

/-- A row of values. -/
def ValuesAt (w : World) (G : Nat → Prop) (a : Option Addr) (vs : List VT) : Prop := 0 < vs.length → ∃ b off, a = some ⟨b, off, none⟩ ∧ G b ∧ b < w.heap.size ∧ ValsAt w G vs b off
set_option maxRecDepth 100000 in
set_option maxHeartbeats 4000000 in
theorem equalF (z : Nat) (ih : SameIH 25 z) (a b : Option Addr) (ca cb : Nat) (vs vs2 : List VT) (hz : ∀ v ∈ vs, SizeOf.sizeOf v ≤ z) (G G' : Nat → Prop) (w : World) (h : ValuesAt w G a vs) (h2 : ValuesAt w G' b vs2) (hl : vs.length ≤ 9223372036854775807) (hl2 : vs2.length ≤ 9223372036854775807) :
    Calls Try.prog 62 #[.slice a vs.length ca, .slice b vs2.length cb, .func (.func 25) #[] #[]] w (fun e w' => e = .returned (.bool (sameVs vs vs2)) ∧ Only (fun _ => False) w w') := by
  have IH := Lib.hid ih; have HZ := Lib.hid hz; clear ih hz
  obtain ⟨lk, hlk⟩ : ∃ lk, lk = vs.length := ⟨_, rfl⟩
  obtain ⟨mk, hmk⟩ : ∃ lk, lk = vs2.length := ⟨_, rfl⟩
  rw [← hlk] at hl ⊢
  rw [← hmk] at hl2 ⊢
  have HLK := Lib.hid hlk; have HMK := Lib.hid hmk; have HK := Lib.hid h; have HK2 := Lib.hid h2; clear hlk hmk h h2
  by_cases q1 : lk = mk
  rotate_left
  · have t1 : ((lk : Int) != (mk : Int)) = true := by simp; omega
    have t2 : ((lk : Int) == (mk : Int)) = false := by simp; omega
    have t3 : (lk != mk) = true := by simp; omega
    have t4 : (lk == mk) = false := by simp; omega
    have hres : sameVs vs vs2 = false := by
      cases hs : sameVs vs vs2 with
      | false => rfl
      | true => exact absurd (by rw [HLK.out, HMK.out, sameVs_eq _ _ hs]) q1
    rw [hres]
    clear hres q1
    go_enter Try.func62, Try.ntmps62
    go_wp2_with fail
    go_ret
    exact ⟨rfl, Only.refl _ _⟩
  subst q1
  obtain ⟨res, hres⟩ : ∃ r, r = sameVs vs vs2 := ⟨_, rfl⟩
  rw [← hres]
  have HRES := Lib.hid hres; clear hres
  go_enter Try.func62, Try.ntmps62
  go_wp2_with fail
  go_loopw [17] (fun v wr => ∃ i : Nat, v = .int .i64 (i : Int) ∧ i ≤ lk ∧ Hid (sameVs (vs.drop i) (vs2.drop i) = res) ∧ Hid (Only (fun _ => False) w wr)) (fun v _ => lk - (intOf v).toNat)
  case atStart => exact ⟨0, by simp, by omega, Lib.hid (by rw [HRES.out]; rfl), Lib.hid (Only.refl _ _)⟩
  case round =>
    obtain ⟨j, rfl, hj, HF, HP⟩ := hrel
    by_cases hlt : j < lk
    · have t4 : decide ((j : Int) < (lk : Int)) = true := by simpa using hlt
      have hj0 : (0 : Int) ≤ (j : Int) := by omega
      have hj1 : (j : Int) < (lk : Int) := by omega
      have hvi : j < vs.length := by rw [← HLK.out]; exact hlt
      have hvi2 : j < vs2.length := by rw [← HMK.out]; exact hlt
      obtain ⟨gv, ov, hav, hGv, hbv, hvals⟩ := HK.out (by omega)
      subst hav
      obtain ⟨gv2, ov2, hav2, hGv2, hbv2, hvals2⟩ := HK2.out (by omega)
      subst hav2
      obtain ⟨cs, hcl, hcr, hcv'⟩ := valsAt_get hvals j hvi
      obtain ⟨k', n', s', ak', lk', ck', av', lv', cv', rfl⟩ := valAt_form hcv'
      obtain ⟨cs2, hcl2, hcr2, hcv2⟩ := valsAt_get hvals2 j hvi2
      obtain ⟨k'', n'', s'', ak'', lk'', ck'', av'', lv'', cv'', rfl⟩ := valAt_form hcv2
      have hrg := range_only hcr hbv HP.out (fun h => h)
      have hrg2 := range_only hcr2 hbv2 HP.out (fun h => h)
      have o2 : Only (fun _ => False) wr ((wr.alloc (.cells #[.int .u8 k', .int .i64 n', .string ⟨s'.toArray⟩, .slice ak' lk' ck', .slice av' lv' cv'] 35)).alloc (.cells #[.int .u8 k'', .int .i64 n'', .string ⟨s''.toArray⟩, .slice ak'' lk'' ck'', .slice av'' lv'' cv''] 35)) := ((Only.refl _ wr).alloc _).alloc _
      have owd := HP.out.trans o2
      have hrec := IH.out vs[j] vs2[j] (HZ.out _ (List.getElem_mem hvi)) G G' _ _ _ (valAt_only (S := fun _ => False) owd (fun _ _ h => h) _ _ hcv') (valAt_only (S := fun _ => False) owd (fun _ _ h => h) _ _ hcv2)
      have hnx := HF.out
      rw [sameVs_drop vs vs2 j hvi hvi2] at hnx
      obtain ⟨e0, e1, e2, e3, e4⟩ := range5 hrg
      have hrg2' := range_only hrg2 (Nat.lt_of_lt_of_le hbv2 HP.out.size) ((Only.refl (fun _ => False) wr).alloc (.cells #[.int .u8 k', .int .i64 n', .string ⟨s'.toArray⟩, .slice ak' lk' ck', .slice av' lv' cv'] 35)) (fun h => h)
      obtain ⟨f0, f1, f2, f3, f4⟩ := range5 hrg2'
      have hr : sameV vs[j] vs2[j] = true ∨ sameV vs[j] vs2[j] = false := by cases sameV vs[j] vs2[j] <;> simp
      generalize sameV vs[j] vs2[j] = sv at *
      have hz := zero_V
      have HREC := Lib.hid hrec; have HNX := Lib.hid hnx; have O2 := Lib.hid o2; clear hrec hnx hrg hrg2 hrg2' hcr hcr2 hcv' hcv2 hcl hcl2 hvals hvals2 owd o2
      rcases hr with rfl | rfl
      · go_wp2_with fail
        refine HREC.out.mono ?_
        rintro e w7 ⟨rfl, o7⟩
        have O7 := Lib.hid (O2.out.trans o7); clear o7
        clear e0 e1 e2 e3 e4 f0 f1 f2 f3 f4 hz
        go_wp2_with fail
        go_roundw
        case rel => exact ⟨j + 1, by simp [go_sem], by omega, Lib.hid (by first | exact HNX.out | (have h := HNX.out; simpa using h)), Lib.hid (HP.out.trans O7.out)⟩
        case measure => simp [intOf]; omega
      · go_wp2_with fail
        refine HREC.out.mono ?_
        rintro e w7 ⟨rfl, o7⟩
        have O7 := Lib.hid (O2.out.trans o7); clear o7
        clear e0 e1 e2 e3 e4 f0 f1 f2 f3 f4 hz
        go_wp2_with fail
        go_ret
        have h := HNX.out
        exact ⟨by rw [← h]; rfl, HP.out.trans O7.out⟩
    · have hke : j = lk := by omega
      subst hke
      have t4 : decide ((j : Int) < (j : Int)) = false := by simp
      go_wp2_with fail
      go_ret
      refine ⟨?_, HP.out⟩
      have h := HF.out
      rw [show vs.drop j = [] from List.drop_eq_nil_of_le (by rw [← HLK.out]; omega), show vs2.drop j = [] from List.drop_eq_nil_of_le (by rw [← HMK.out]; omega)] at h
      simp only [sameVs] at h
      rw [← h]; rfl

set_option maxRecDepth 100000 in
set_option maxHeartbeats 4000000 in
theorem wSame_step (z : Nat) (ih : SameIH 25 z) : SameIH 25 (z + 1) := by
  intro t u ht G G' w cs ds hv hu
  obtain ⟨k, n, s, ks, vs⟩ := t
  obtain ⟨k2, n2, s2, ks2, vs2⟩ := u
  have IH := Lib.hid ih; clear ih
  have HT := Lib.hid ht; clear ht
  simp only [ValAt] at hv hu
  obtain ⟨ak, ck, av, cv, rfl, hk, hn, hs, hck, hcv, hK, hV⟩ := hv
  obtain ⟨bk, dk, bv, dv, rfl, hk2, hn2, hs2, hdk, hdv, hK2, hV2⟩ := hu
  have hwb : ∃ wb, wb = (w.alloc (.cells #[.int .u8 k, .int .i64 n, .string ⟨s.toArray⟩, .slice ak ks.length ck, .slice av vs.length cv] 35)).alloc (.cells #[.int .u8 k2, .int .i64 n2, .string ⟨s2.toArray⟩, .slice bk ks2.length dk, .slice bv vs2.length dv] 35) := ⟨_, rfl⟩
  obtain ⟨wb, hwb⟩ := hwb
  have ob : Only (fun _ => False) w wb := by rw [hwb]; exact ((Only.refl _ w).alloc _).alloc _
  have hbox : wb.heap[w.heap.size]? = some (.cells #[.int .u8 k, .int .i64 n, .string ⟨s.toArray⟩, .slice ak ks.length ck, .slice av vs.length cv] 35 (0, 0)) := by rw [hwb]; exact heap_old (heap_new w _) _
  have hbox2 : wb.heap[w.heap.size + 1]? = some (.cells #[.int .u8 k2, .int .i64 n2, .string ⟨s2.toArray⟩, .slice bk ks2.length dk, .slice bv vs2.length dv] 35 (0, 0)) := by rw [hwb]; have := heap_new (w.alloc (.cells #[.int .u8 k, .int .i64 n, .string ⟨s.toArray⟩, .slice ak ks.length ck, .slice av vs.length cv] 35)) (.cells #[.int .u8 k2, .int .i64 n2, .string ⟨s2.toArray⟩, .slice bk ks2.length dk, .slice bv vs2.length dv] 35); rw [World.size_alloc] at this; exact this
  have hkeep : ∀ w', Only (fun _ => False) wb w' → w'.heap[w.heap.size]? = some (.cells #[.int .u8 k, .int .i64 n, .string ⟨s.toArray⟩, .slice ak ks.length ck, .slice av vs.length cv] 35 (0, 0)) ∧ w'.heap[w.heap.size + 1]? = some (.cells #[.int .u8 k2, .int .i64 n2, .string ⟨s2.toArray⟩, .slice bk ks2.length dk, .slice bv vs2.length dv] 35 (0, 0)) := fun w' ho => by
    rw [ho.block _ (Array.getElem?_eq_some_iff.1 hbox).1 (fun h => h), ho.block _ (Array.getElem?_eq_some_iff.1 hbox2).1 (fun h => h)]; exact ⟨hbox, hbox2⟩
  have hTK : TextsAt wb ak ks := fun hp => by
    obtain ⟨b, off, e, _, hb, hr⟩ := hK hp
    exact ⟨b, off, e, Nat.lt_of_lt_of_le hb ob.size, range_only hr hb ob (fun h => h)⟩
  have hTK2 : TextsAt wb bk ks2 := fun hp => by
    obtain ⟨b, off, e, _, hb, hr⟩ := hK2 hp
    exact ⟨b, off, e, Nat.lt_of_lt_of_le hb ob.size, range_only hr hb ob (fun h => h)⟩
  have heq := equalS ak bk ck dk ks ks2 wb hTK hTK2 (by omega) (by omega)
  have hVV : ∀ w', Only (fun _ => False) wb w' → ValuesAt w' G av vs ∧ ValuesAt w' G' bv vs2 := fun w' ho => by
    have oo := ob.trans ho
    exact ⟨fun hp => by
      obtain ⟨b, off, e, hg, hb, hr⟩ := hV hp
      exact ⟨b, off, e, hg, Nat.lt_of_lt_of_le hb oo.size, valsAt_only (S := fun _ => False) oo (fun _ _ h => h) vs b off hb hg hr⟩, fun hp => by
      obtain ⟨b, off, e, hg, hb, hr⟩ := hV2 hp
      exact ⟨b, off, e, hg, Nat.lt_of_lt_of_le hb oo.size, valsAt_only (S := fun _ => False) oo (fun _ _ h => h) vs2 b off hb hg hr⟩⟩
  have hef := fun w' (ho : Only (fun _ => False) wb w') => equalF z IH.out av bv cv dv vs vs2 (fun v hv => by have h1 := List.sizeOf_lt_of_mem hv; have h2 := HT.out; simp only [VT.mk.sizeOf_spec] at h2; omega) G G' w' (hVV w' ho).1 (hVV w' ho).2 (by omega) (by omega)
  have hlens : ks = ks2 → ks.length = ks2.length := fun e => by rw [e]
  have hlens2 : sameVs vs vs2 = true → vs.length = vs2.length := fun e => by rw [sameVs_eq _ _ e]
  obtain ⟨res, hres⟩ : ∃ r, r = sameV (.mk k n s ks vs) (.mk k2 n2 s2 ks2 vs2) := ⟨_, rfl⟩
  rw [← hres]
  have hres' : res = if k = k2 then if n = n2 then if s = s2 then if ks = ks2 then sameVs vs vs2 else false else false else false else false := by
    rw [hres]
    simp only [sameV]
    split
    · split
      · split
        · by_cases e : ks = ks2
          · rw [if_pos (hlens e)]; simp only [if_pos e]
            split
            · rfl
            · cases hs : sameVs vs vs2 with
              | false => rfl
              | true => exact absurd (hlens2 hs) (by assumption)
          · simp only [if_neg e]
            split
            · split <;> rfl
            · rfl
        · rfl
      · rfl
    · rfl
  clear hres hlens hlens2 hTK hTK2 hVV
  have HRES := Lib.hid hres'; clear hres'
  obtain ⟨lv, hlv⟩ : ∃ lv, lv = vs.length := ⟨_, rfl⟩
  obtain ⟨lk, hlk⟩ : ∃ lk, lk = ks.length := ⟨_, rfl⟩
  obtain ⟨mv, hmv⟩ : ∃ lv, lv = vs2.length := ⟨_, rfl⟩
  obtain ⟨mk, hmk⟩ : ∃ lk, lk = ks2.length := ⟨_, rfl⟩
  rw [← hlk, ← hlv, ← hmk, ← hmv] at hkeep
  rw [← hlk, ← hlv, ← hmk, ← hmv] at hwb
  rw [← hlv, ← hmv] at hef
  rw [← hlk, ← hmk] at heq
  rw [← hlk, ← hlv, ← hmk, ← hmv]
  obtain ⟨c0, c1, c2, c3, c4⟩ := box_cells (hkeep wb (Only.refl _ _)).1
  obtain ⟨d0, d1, d2, d3, d4⟩ := box_cells (hkeep wb (Only.refl _ _)).2
  rw [hwb] at c0 c1 c2 c3 c4 d0 d1 d2 d3 d4 heq
  have HKEEP := Lib.hid hkeep; have HOB := Lib.hid ob; have HWB := Lib.hid hwb; have HEQ := Lib.hid heq; have HEF := Lib.hid hef
  clear hkeep ob hK hV hK2 hV2 hbox hbox2 hwb heq hef hlv hlk hmv hmk
  by_cases q1 : k = k2
  rotate_left
  · have t1 : ((k : Int) != (k2 : Int)) = true := by simp; omega
    have t2 : ((k : Int) == (k2 : Int)) = false := by simp; omega
    have t3 : (k != k2) = true := by simp; omega
    have t4 : (k == k2) = false := by simp; omega
    have hf : res = false := by rw [HRES.out, if_neg q1]
    rw [hf]
    clear q1 hf
    go_enter Try.func25, Try.ntmps25
    go_wp2_with fail
    go_ret
    rw [← HWB.out]
    exact ⟨rfl, HOB.out⟩
  subst q1
  by_cases q1 : n = n2
  rotate_left
  · have t1 : (n != n2) = true := by simp; omega
    have t2 : (n == n2) = false := by simp; omega
    have hf : res = false := by rw [HRES.out, if_pos rfl, if_neg q1]
    rw [hf]
    clear q1 hf
    go_enter Try.func25, Try.ntmps25
    go_wp2_with fail
    go_ret
    rw [← HWB.out]
    exact ⟨rfl, HOB.out⟩
  subst q1
  by_cases q1 : s = s2
  rotate_left
  · have t1 : (s != s2) = true := by simpa using q1
    have t2 : (s == s2) = false := by simpa using q1
    have hf : res = false := by rw [HRES.out, if_pos rfl, if_pos rfl, if_neg q1]
    rw [hf]
    clear q1 hf
    go_enter Try.func25, Try.ntmps25
    go_wp2_with fail
    go_ret
    rw [← HWB.out]
    exact ⟨rfl, HOB.out⟩
  subst q1
  have hf : res = if ks = ks2 then sameVs vs vs2 else false := by rw [HRES.out, if_pos rfl, if_pos rfl, if_pos rfl]
  clear HRES
  by_cases hE : ks = ks2
  · have hd : decide (ks = ks2) = true := decide_eq_true hE
    rw [if_pos hE] at hf
    rw [hd] at HEQ
    have HF := Lib.hid hf; have HE := Lib.hid hE; clear hf hE hd
    go_enter Try.func25, Try.ntmps25
    go_wp2_with fail
    refine HEQ.out.mono ?_
    rintro e w2 ⟨rfl, o2⟩
    rw [← HWB.out] at o2
    have hk2 := HKEEP.out _ o2
    clear c0 c1 c2 c3 c4 d0 d1 d2 d3 d4
    obtain ⟨c0, c1, c2, c3, c4⟩ := box_cells hk2.1
    obtain ⟨d0, d1, d2, d3, d4⟩ := box_cells hk2.2
    have hef := HEF.out w2 o2
    have HEF2 := Lib.hid hef; have O2 := Lib.hid o2; clear hef o2 hk2
    go_wp2_with fail
    refine HEF2.out.mono ?_
    rintro e w3 ⟨rfl, o3⟩
    have O3 := Lib.hid o3; clear o3
    go_wp2_with fail
    go_ret
    exact ⟨by rw [HF.out]; rfl, (HOB.out.trans O2.out).trans O3.out⟩
  · have hd : decide (ks = ks2) = false := decide_eq_false hE
    rw [if_neg hE] at hf
    rw [hd] at HEQ
    rw [hf]
    clear hf hE hd
    go_enter Try.func25, Try.ntmps25
    go_wp2_with fail
    refine HEQ.out.mono ?_
    rintro e w2 ⟨rfl, o2⟩
    rw [← HWB.out] at o2
    have O2 := Lib.hid o2; clear o2
    clear c0 c1 c2 c3 c4 d0 d1 d2 d3 d4
    go_wp2_with fail
    go_ret
    exact ⟨rfl, HOB.out.trans O2.out⟩
theorem wSame : ∀ z, SameIH 25 z
  | 0 => fun t u ht => by exfalso; obtain ⟨k, n, s, ks, vs⟩ := t; simp only [VT.mk.sizeOf_spec] at ht; omega
  | z + 1 => wSame_step z (wSame z)
end Go.Proofs.Ytoojnpafcdaflaa
