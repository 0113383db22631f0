/- Sealed bytes opened: slices.Equal of bytes, wire.Open, the document's Open. -/
import Derived.Test.YtoojnpafcdaflaaCrc
import Derived.Test.YtoojnpafcdaflaaRdr
import Derived.Test.YtoojnpafcdaflaaSaw
import Derived.Test.YtoojnpafcdaflaaReg
import Derived.BigQuiet
namespace Go.Proofs.Ytoojnpafcdaflaa
open Go Go.RowKit
set_option linter.unusedVariables false
set_option linter.unusedSimpArgs false
set_option maxRecDepth 100000

/-- A row of bytes. -/
def BytesAt (w : World) (a : Option Addr) (l : List UInt8) : Prop := 0 < l.length → ∃ b off, a = some ⟨b, off, none⟩ ∧ b < w.heap.size ∧ w.rangeAt b off (u8s l)
theorem Bytes.at {w : World} {a : Option Addr} {n c : Nat} {l : List UInt8} (h : Bytes w (.slice a n c) l) : BytesAt w a l ∧ n = l.length := by
  obtain ⟨a', c', e, h1, h2, h3⟩ := h
  injection e with e1 e2 e3
  subst e1
  exact ⟨h3, e2⟩
theorem equalB (a b : Option Addr) (ca cb : Nat) (ks ks2 : List UInt8) (w : World) (h : BytesAt w a ks) (h2 : BytesAt w b ks2) (hl : ks.length ≤ 9223372036854775807) (hl2 : ks2.length ≤ 9223372036854775807) :
    Calls Try.prog 65 #[.slice a ks.length ca, .slice b ks2.length cb] w (fun e w' => e = .returned (.bool (decide (ks = ks2))) ∧ Only (fun _ => False) w w') := by
  obtain ⟨lk, hlk⟩ : ∃ lk, lk = ks.length := ⟨_, rfl⟩
  obtain ⟨mk, hmk⟩ : ∃ lk, lk = ks2.length := ⟨_, rfl⟩
  rw [← hlk] at hl ⊢
  rw [← hmk] at hl2 ⊢
  have HLK := Lib.hid hlk; have HMK := Lib.hid hmk; have HK := Lib.hid h; have HK2 := Lib.hid h2; clear hlk hmk h h2
  by_cases q1 : lk = mk
  rotate_left
  · have t1 : ((lk : Int) != (mk : Int)) = true := by simp; omega
    have t2 : ((lk : Int) == (mk : Int)) = false := by simp; omega
    have t3 : (lk != mk) = true := by simp; omega
    have t4 : (lk == mk) = false := by simp; omega
    have hres : decide (ks = ks2) = false := by simp; intro e; apply q1; rw [HLK.out, HMK.out, e]
    rw [hres]
    clear hres q1
    go_enter Try.func65, Try.ntmps65
    go_wp2_with fail
    go_ret
    exact ⟨rfl, Only.refl _ _⟩
  subst q1
  obtain ⟨res, hres⟩ : ∃ r, r = decide (ks = ks2) := ⟨_, rfl⟩
  rw [← hres]
  have HRES := Lib.hid hres; clear hres
  go_enter Try.func65, Try.ntmps65
  go_wp2_with fail
  go_loopw [13] (fun v wr => ∃ i : Nat, v = .int .i64 (i : Int) ∧ i ≤ lk ∧ Hid (ks.take i = ks2.take i) ∧ Hid (Only (fun _ => False) w wr)) (fun v _ => lk - (intOf v).toNat)
  case atStart => exact ⟨0, by simp, by omega, Lib.hid (by simp), Lib.hid (Only.refl _ _)⟩
  case round =>
    obtain ⟨i, rfl, hi, HF, HO⟩ := hrel
    by_cases hlt : i < lk
    · have t3 : decide ((i : Int) < (lk : Int)) = true := by simpa using hlt
      have hi0 : (0 : Int) ≤ (i : Int) := by omega
      have hi1 : (i : Int) < (lk : Int) := by omega
      have hki : i < ks.length := by rw [← HLK.out]; exact hlt
      have hki2 : i < ks2.length := by rw [← HMK.out]; exact hlt
      obtain ⟨gk, ok, hak, hbk, hkr⟩ := HK.out (by omega)
      subst hak
      obtain ⟨gk2, ok2, hak2, hbk2, hkr2⟩ := HK2.out (by omega)
      subst hak2
      have hkc : wr.cell? ⟨gk, ok + i, none⟩ = some (.int .u8 (((ks[i]).toNat : Nat) : Int)) := range_only hkr hbk HO.out (fun h => h) i (.int .u8 (((ks[i]).toNat : Nat) : Int)) (by simp [u8s, hki])
      have hkc2 : wr.cell? ⟨gk2, ok2 + i, none⟩ = some (.int .u8 (((ks2[i]).toNat : Nat) : Int)) := range_only hkr2 hbk2 HO.out (fun h => h) i (.int .u8 (((ks2[i]).toNat : Nat) : Int)) (by simp [u8s, hki2])
      have hstep := take_snoc_eq hki hki2 HF.out
      have hne : ks[i] ≠ ks2[i] → ks ≠ ks2 := fun h e => by subst e; exact h rfl
      have hxy : (ks[i]).toNat = (ks2[i]).toNat → ks[i] = ks2[i] := fun h => UInt8.toNat_inj.1 h
      have hxn : (ks[i]).toNat ≠ (ks2[i]).toNat → ks[i] ≠ ks2[i] := fun h e => h (by rw [e])
      generalize ks[i] = ki at *
      generalize ks2[i] = ki2 at *
      obtain ⟨n1, hn1⟩ : ∃ n1, n1 = ki.toNat := ⟨_, rfl⟩
      obtain ⟨n2, hn2⟩ : ∃ n2, n2 = ki2.toNat := ⟨_, rfl⟩
      rw [← hn1] at hkc hxy hxn
      rw [← hn2] at hkc2 hxy hxn
      have HST := Lib.hid hstep; have HNE := Lib.hid hne; have HXY := Lib.hid hxy; have HXN := Lib.hid hxn; clear hstep hne hxy hxn hkr hkr2 hn1 hn2
      by_cases hE : n1 = n2
      · have hs := HST.out (HXY.out hE)
        subst hE
        have HS := Lib.hid hs; clear hs HNE HXY HXN HST
        have t1 : ((n1 : Int) != (n1 : Int)) = false := by simp
        have t2 : ((n1 : Int) == (n1 : Int)) = true := by simp
        go_wp2_with fail
        go_quiet (fail)
        go_wp2_with fail
        go_roundw
        case rel => exact ⟨i + 1, by simp [go_sem], by omega, HS, Lib.hid (HO.out.trans ((Only.refl _ _).drewN _))⟩
        case measure => simp [intOf]; omega
      · have t1 : ((n1 : Int) != (n2 : Int)) = true := by simp; omega
        have t2 : ((n1 : Int) == (n2 : Int)) = false := by simp; omega
        have t5 : (n1 != n2) = true := by simpa using hE
        have t6 : (n1 == n2) = false := by simpa using hE
        have hn := HNE.out (HXN.out hE)
        have HE := Lib.hid hn; clear hE hn HNE HXY HXN HST
        go_wp2_with fail
        go_quiet (fail)
        go_wp2_with fail
        go_ret
        exact ⟨by rw [HRES.out, decide_eq_false HE.out]; rfl, HO.out.trans ((Only.refl _ _).drewN _)⟩
    · have hke : i = lk := by omega
      subst hke
      have t3 : decide ((i : Int) < (i : Int)) = false := by simp
      have hall : ks = ks2 := eq_of_take (by rw [← HLK.out, ← HMK.out]) (by have := HF.out; rw [HLK.out] at this; exact this)
      have HALL := Lib.hid hall; clear hall
      go_wp2_with fail
      go_ret
      exact ⟨by rw [HRES.out, decide_eq_true HALL.out]; rfl, HO.out⟩
theorem sealed_take {l m : List UInt8} (h : l = sealed m) : l.take (l.length - 4) = m := by
  subst h
  rw [sealed_len, Nat.add_sub_cancel]
  unfold sealed
  rw [List.take_append_of_le_length (Nat.le_refl _), List.take_length]
theorem sealed_iff {l : List UInt8} (h : 4 ≤ l.length) : Sealed l ↔ sealed (l.take (l.length - 4)) = l :=
  ⟨fun ⟨m, hm⟩ => by rw [sealed_take hm, hm], fun h => ⟨_, h.symm⟩⟩
/-- What wire.Open answers. -/
def ROpen (w : World) (l : List UInt8) (e : Ending) (w' : World) : Prop :=
  Only (fun _ => False) w w' ∧
  ((l.length < 4 ∧ e = .returned (.tuple #[.pointer none, .int .i64 3])) ∨
   (4 ≤ l.length ∧ ¬ Sealed l ∧ e = .returned (.tuple #[.pointer none, .int .i64 14])) ∨
   (∃ m b, l = sealed m ∧ e = .returned (.tuple #[.pointer (some ⟨b, 0, none⟩), .int .i64 0]) ∧ w.heap.size ≤ b ∧ ReaderAt w' b m false))
theorem Bytes.front {w : World} {a : Option Addr} {c n : Nat} {l : List UInt8} (h : Bytes w (.slice a l.length c) l) (hn : n ≤ l.length) (c' : Nat) (hc : n ≤ c') (hc' : c' ≤ 9223372036854775807) : Bytes w (.slice a n c') (l.take n) := by
  obtain ⟨a', c2, e, h1, h2, h3⟩ := h
  injection e with e1 e2 e3
  subst e1
  have hl : (l.take n).length = n := by rw [List.length_take]; omega
  refine ⟨a, c', by rw [hl], by rw [hl]; exact hc, hc', fun hp => ?_⟩
  rw [hl] at hp
  obtain ⟨b, off, e, hb, hr⟩ := h3 (by omega)
  refine ⟨b, off, e, hb, fun j v hv => hr j v ?_⟩
  rw [u8s_take, List.getElem?_take] at hv
  split at hv
  · exact hv
  · cases hv
theorem Bytes.blk {w : World} {v : Value} {l : List UInt8} (h : Bytes w v l) (hp : 0 < l.length) {k : Nat} (hk : v.ownBlock = some k) : k < w.heap.size := by
  obtain ⟨a', c2, rfl, h1, h2, h3⟩ := h
  obtain ⟨b, off, rfl, hb, hr⟩ := h3 hp
  simp [Value.ownBlock] at hk
  omega
set_option maxHeartbeats 4000000 in
theorem wOpen (v : Value) (l : List UInt8) (w : World) (h : Bytes w v l) (hl : l.length ≤ 1000000000) : Calls Try.prog 40 #[v] w (ROpen w l) := by
  have HB := Lib.hid h
  obtain ⟨a, c, rfl, h1, h2, h3⟩ := h
  clear h3
  have hc1 : (l.length : Int) ≤ 1000000000 := by omega
  have hc0 : (0 : Int) ≤ (l.length : Int) := by omega
  by_cases h4 : l.length < 4
  · have t1 : decide ((l.length : Int) - 4 < 0) = true := by simp; omega
    have hw1 : IntKind.i64.wrap ((l.length : Int) - 4) = (l.length : Int) - 4 := by rw [IntKind.wrap_i64]; omega
    have H4 := Lib.hid h4; clear h4
    go_enter Try.func40, Try.ntmps40
    go_wp2
    go_ret2
    exact ⟨Only.refl _ _, .inl ⟨H4.out, rfl⟩⟩
  have t1 : decide ((l.length : Int) - 4 < 0) = false := by simp; omega
  obtain ⟨n, hn⟩ : ∃ n : Nat, l.length = n + 4 := ⟨l.length - 4, by omega⟩
  have hsi := sealed_iff (l := l) (by omega)
  rw [hn, Nat.add_sub_cancel] at hsi
  have hbn := HB.out.front (n := n) (by omega) n (Nat.le_refl _) (by omega)
  have hbn2 := HB.out.front (n := n) (by omega) c (by omega) (by omega)
  have hln : (l.take n).length = n := by rw [List.length_take]; omega
  have hw1 : IntKind.i64.wrap ((l.length : Int) - 4) = (n : Int) := by rw [IntKind.wrap_i64]; omega
  have hn0 : (0 : Int) ≤ (n : Int) := by omega
  have hnl : (n : Int) ≤ (l.length : Int) := by omega
  have hnc : (n : Int) ≤ (c : Int) := by omega
  have hlc : (l.length : Int) - 4 = (n : Int) := by omega
  have hneg : decide ((n : Int) < 0) = false := by simp
  have HSI := Lib.hid hsi; have HN := Lib.hid hn; have HBN := Lib.hid hbn; have HBN2 := Lib.hid hbn2; have HLN := Lib.hid hln; clear hsi hn hbn hbn2 hln
  have hA := heap_new w (.cells #[.slice a n n] 26)
  have oA := (Only.refl (fun _ => False) w).alloc (.cells #[.slice a n n] 26)
  have hs := wSealed w.heap.size (.slice a n n) (l.take n) _ hA (HBN.out.still oA) (by have := HLN.out; omega)
  have H4 := Lib.hid h4; have HS := Lib.hid hs; have OA := Lib.hid oA; clear hA hs oA h4
  go_enter Try.func40, Try.ntmps40
  go_wp2_with fail
  refine HS.out.mono ?_
  rintro e w2 ⟨v2, rfl, h2, o2⟩
  obtain ⟨m, hm⟩ : ∃ m, m = l.take n := ⟨_, rfl⟩
  obtain ⟨L, hL⟩ : ∃ L, L = sealed m := ⟨_, rfl⟩
  rw [← hm, ← hL] at h2
  have hsi := HSI.out
  rw [← hm, ← hL] at hsi
  obtain ⟨a2, c2, rfl⟩ := h2.form
  have heq := equalB a2 a c2 c L l w2 h2.bytes.at.1 (HB.out.still (OA.out.trans o2)).at.1 h2.le (by omega)
  have hbn2 := HBN2.out
  rw [← hm] at hbn2
  have HEQ := Lib.hid heq; have O2 := Lib.hid (OA.out.trans o2); have HSI2 := Lib.hid hsi; have HL := Lib.hid hL; have HBM := Lib.hid hbn2; clear heq o2 h2 hsi hL hbn2 HSI hm HBN HBN2
  go_wp2_with fail
  refine HEQ.out.mono ?_
  rintro e w3 ⟨rfl, o3⟩
  have O3 := Lib.hid (O2.out.trans o3); clear o3
  by_cases hsl : L = l
  · rw [decide_eq_true hsl]
    have HSL := Lib.hid hsl; clear hsl
    go_wp2_with fail
    refine (read_new (.slice a n c) m w3 (HBM.out.still O3.out) (fun hp k hk => (HBM.out.still O3.out).blk hp hk)).mono ?_
    rintro e w4 ⟨rfl, h4, o4⟩
    have H5 := Lib.hid h4; have O4 := Lib.hid o4; clear h4 o4
    go_wp2_with fail
    go_ret2
    exact ⟨O3.out.trans O4.out, .inr (.inr ⟨m, w3.heap.size, by rw [← HL.out, HSL.out], rfl, O3.out.size, H5.out⟩)⟩
  · rw [decide_eq_false hsl]
    have HSL := Lib.hid hsl; clear hsl
    go_wp2_with fail
    go_ret2
    exact ⟨O3.out, .inr (.inl ⟨by have := H4.out; omega, fun h => HSL.out (HSI2.out.1 h), rfl⟩)⟩
/-- What the document's Open answers. -/
def RrOpen (w : World) (l : List UInt8) (e : Ending) (w' : World) : Prop :=
  Only (fun _ => False) w w' ∧
  ((l.length < 4 ∧ e = .returned (.tuple #[.slice none 0 0, .int .i64 3])) ∨
   (4 ≤ l.length ∧ ¬ Sealed l ∧ e = .returned (.tuple #[.slice none 0 0, .int .i64 14])) ∨
   (∃ m v, l = sealed m ∧ e = .returned (.tuple #[v, .int .i64 0]) ∧ Bytes w' v m))
set_option maxHeartbeats 4000000 in
theorem rOpen (v : Value) (l : List UInt8) (w : World) (h : Bytes w v l) (hl : l.length ≤ 1000000000) : Calls Try.prog 41 #[v] w (RrOpen w l) := by
  have HB := Lib.hid h
  obtain ⟨a, c, rfl, h1, h2, h3⟩ := h
  clear h3
  have hc1 : (l.length : Int) ≤ 1000000000 := by omega
  have hc0 : (0 : Int) ≤ (l.length : Int) := by omega
  by_cases h4 : l.length < 4
  · have t1 : decide ((l.length : Int) < 4) = true := by simp; omega
    have t2 : decide (l.length < 4) = true := by simpa using h4
    have H4 := Lib.hid h4; clear h4
    go_enter Try.func41, Try.ntmps41
    go_wp2
    go_ret2
    exact ⟨Only.refl _ _, .inl ⟨H4.out, rfl⟩⟩
  have t1 : decide ((l.length : Int) < 4) = false := by simp; omega
  have t2 : decide (l.length < 4) = false := by simpa using h4
  obtain ⟨n, hn⟩ : ∃ n : Nat, l.length = n + 4 := ⟨l.length - 4, by omega⟩
  have hsi := sealed_iff (l := l) (by omega)
  rw [hn, Nat.add_sub_cancel] at hsi
  have hbn2 := HB.out.front (n := n) (by omega) c (by omega) (by omega)
  have hln : (l.take n).length = n := by rw [List.length_take]; omega
  have hw1 : IntKind.i64.wrap ((l.length : Int) - 4) = (n : Int) := by rw [IntKind.wrap_i64]; omega
  have hn0 : (0 : Int) ≤ (n : Int) := by omega
  have hnl : (n : Int) ≤ (l.length : Int) := by omega
  have hnc : (n : Int) ≤ (c : Int) := by omega
  have hlc : (l.length : Int) - 4 = (n : Int) := by omega
  have H4 := Lib.hid h4; have HN := Lib.hid hn; clear h4 hn
  obtain ⟨m, hm⟩ : ∃ m, m = l.take n := ⟨_, rfl⟩
  obtain ⟨L, hL⟩ : ∃ L, L = sealed m := ⟨_, rfl⟩
  rw [← hm] at hsi hbn2 hln
  rw [← hL] at hsi
  have hml : m.length ≤ 1000000000 := by omega
  have hrs := fun w' (ho : Only (fun _ => False) w w') => rSeal (.slice a n c) m w' (hbn2.still ho) (by omega)
  rw [← hL] at hrs
  have HRS := Lib.hid hrs; have HSI := Lib.hid hsi; have HBM := Lib.hid hbn2; have HL := Lib.hid hL; clear hsi hbn2 hln hm hL hrs hml
  by_cases hsl : L = l
  · have HSL := Lib.hid hsl
    subst hsl
    go_enter Try.func41, Try.ntmps41
    go_wp2_with fail
    refine wp_region_steps 7 (by kernel_rfl) rfl (by kernel_rfl) [some 11, some 12, some 13, some 14, some 15, some 16, some 17] rfl rfl (fun _ => False) [(fun v _ => v = (.slice a L.length c)), (fun v _ => v = (.int .i64 n)), (fun v _ => v = (.slice a n c)), (fun v w1 => Bytes w1 v L), (fun v _ => v = (.string ⟨L.toArray⟩)), (fun v _ => v = (.slice a L.length c)), (fun v _ => v = (.string ⟨L.toArray⟩))] rfl ⟨?_, ?_, ?_, ?_, ?_, ?_, ?_, trivial⟩ _ rfl ⟨?_, ?_, ?_, ?_, ?_, ?_, ?_, trivial⟩ ?_
    · exact Stable.is _ _
    · exact Stable.is _ _
    · exact Stable.is _ _
    · exact (fun v w1 w2 h ho => h.still ho)
    · exact Stable.is _ _
    · exact Stable.is _ _
    · exact Stable.is _ _
    · intro x wx ox hN TT HTT
      clear hN
      unfold StepTo
      simp only [putAll, Act.put, List.setIfInBounds_toArray, List.set_cons_succ, List.set_cons_zero]
      go_wp2_with fail
      exact ⟨rfl, _, rfl, HTT.out _ _ (rfl) (Only.refl _ _)⟩
    · intro x wx ox hN TT HTT
      clear hN
      unfold StepTo
      simp only [putAll, Act.put, List.setIfInBounds_toArray, List.set_cons_succ, List.set_cons_zero]
      go_wp2_with fail
      exact ⟨rfl, _, rfl, HTT.out _ _ (rfl) (Only.refl _ _)⟩
    · intro x wx ox hN TT HTT
      have r11 : x 0 = (.slice a L.length c) := hN.1 rfl
      have r12 : x 1 = (.int .i64 n) := hN.2.1 rfl
      clear hN
      unfold StepTo
      simp only [putAll, Act.put, List.setIfInBounds_toArray, List.set_cons_succ, List.set_cons_zero, r11, r12]
      clear r11 r12
      go_wp2_with fail
      exact ⟨rfl, _, rfl, HTT.out _ _ (rfl) (Only.refl _ _)⟩
    · intro x wx ox hN TT HTT
      have r13 : x 2 = (.slice a n c) := hN.1 rfl
      clear hN
      unfold StepTo
      simp only [putAll, Act.put, List.setIfInBounds_toArray, List.set_cons_succ, List.set_cons_zero, r13]
      clear r13
      have hc := HRS.out wx ((((Only.refl _ w).drew)).trans ox)
      have HC := Lib.hid hc; clear hc
      go_wp2_with fail
      refine HC.out.mono ?_
      rintro e w6 ⟨v6, rfl, h6, o6⟩
      go_wp2_with fail
      exact ⟨rfl, _, rfl, HTT.out _ _ (h6.bytes) (o6)⟩
    · intro x wx ox hN TT HTT
      have r14 : (fun (v : Value) (w1 : World) => Bytes w1 v L) (x 3) wx := hN.1 rfl
      clear hN
      unfold StepTo
      simp only [putAll, Act.put, List.setIfInBounds_toArray, List.set_cons_succ, List.set_cons_zero]
      have hcv := r14.conv
      go_wp2_with fail
      exact ⟨rfl, _, rfl, HTT.out _ _ (rfl) (Only.refl _ _)⟩
    · intro x wx ox hN TT HTT
      clear hN
      unfold StepTo
      simp only [putAll, Act.put, List.setIfInBounds_toArray, List.set_cons_succ, List.set_cons_zero]
      go_wp2_with fail
      exact ⟨rfl, _, rfl, HTT.out _ _ (rfl) (Only.refl _ _)⟩
    · intro x wx ox hN TT HTT
      have r16 : x 5 = (.slice a L.length c) := hN.1 rfl
      clear hN
      unfold StepTo
      simp only [putAll, Act.put, List.setIfInBounds_toArray, List.set_cons_succ, List.set_cons_zero, r16]
      clear r16
      have hcv := (HB.out.still ((((Only.refl _ w).drew)).trans ox)).conv
      go_wp2_with fail
      exact ⟨rfl, _, rfl, HTT.out _ _ (rfl) (Only.refl _ _)⟩
    intro xa wxa oxa hN
    have r11 : xa 0 = (.slice a L.length c) := hN.1
    have r12 : xa 1 = (.int .i64 n) := hN.2.1
    have r13 : xa 2 = (.slice a n c) := hN.2.2.1
    have r14 : (fun (v : Value) (w1 : World) => Bytes w1 v L) (xa 3) wxa := hN.2.2.2.1
    have r15 : xa 4 = (.string ⟨L.toArray⟩) := hN.2.2.2.2.1
    have r16 : xa 5 = (.slice a L.length c) := hN.2.2.2.2.2.1
    have r17 : xa 6 = (.string ⟨L.toArray⟩) := hN.2.2.2.2.2.2.1
    clear hN
    simp only [putAll, Act.put, List.setIfInBounds_toArray, List.set_cons_succ, List.set_cons_zero, r11, r12, r13, r15, r16, r17]
    clear r11 r12 r13 r15 r16 r17
    go_wp2_with fail
    go_ret2
    have oo := (((Only.refl (fun _ => False) w).drew)).trans oxa
    exact ⟨oo, .inr (.inr ⟨m, _, HL.out, rfl, HBM.out.still oo⟩)⟩
  · have t3 : (L == l) = false := by simpa using hsl
    have t4 : (L != l) = true := by simpa using hsl
    have HSL := Lib.hid hsl; clear hsl
    go_enter Try.func41, Try.ntmps41
    go_wp2_with fail
    refine wp_region_steps 7 (by kernel_rfl) rfl (by kernel_rfl) [some 11, some 12, some 13, some 14, some 15, some 16, some 17] rfl rfl (fun _ => False) [(fun v _ => v = (.slice a l.length c)), (fun v _ => v = (.int .i64 n)), (fun v _ => v = (.slice a n c)), (fun v w1 => Bytes w1 v L), (fun v _ => v = (.string ⟨L.toArray⟩)), (fun v _ => v = (.slice a l.length c)), (fun v _ => v = (.string ⟨l.toArray⟩))] rfl ⟨?_, ?_, ?_, ?_, ?_, ?_, ?_, trivial⟩ _ rfl ⟨?_, ?_, ?_, ?_, ?_, ?_, ?_, trivial⟩ ?_
    · exact Stable.is _ _
    · exact Stable.is _ _
    · exact Stable.is _ _
    · exact (fun v w1 w2 h ho => h.still ho)
    · exact Stable.is _ _
    · exact Stable.is _ _
    · exact Stable.is _ _
    · intro x wx ox hN TT HTT
      clear hN
      unfold StepTo
      simp only [putAll, Act.put, List.setIfInBounds_toArray, List.set_cons_succ, List.set_cons_zero]
      go_wp2_with fail
      exact ⟨rfl, _, rfl, HTT.out _ _ (rfl) (Only.refl _ _)⟩
    · intro x wx ox hN TT HTT
      clear hN
      unfold StepTo
      simp only [putAll, Act.put, List.setIfInBounds_toArray, List.set_cons_succ, List.set_cons_zero]
      go_wp2_with fail
      exact ⟨rfl, _, rfl, HTT.out _ _ (rfl) (Only.refl _ _)⟩
    · intro x wx ox hN TT HTT
      have r11 : x 0 = (.slice a l.length c) := hN.1 rfl
      have r12 : x 1 = (.int .i64 n) := hN.2.1 rfl
      clear hN
      unfold StepTo
      simp only [putAll, Act.put, List.setIfInBounds_toArray, List.set_cons_succ, List.set_cons_zero, r11, r12]
      clear r11 r12
      go_wp2_with fail
      exact ⟨rfl, _, rfl, HTT.out _ _ (rfl) (Only.refl _ _)⟩
    · intro x wx ox hN TT HTT
      have r13 : x 2 = (.slice a n c) := hN.1 rfl
      clear hN
      unfold StepTo
      simp only [putAll, Act.put, List.setIfInBounds_toArray, List.set_cons_succ, List.set_cons_zero, r13]
      clear r13
      have hc := HRS.out wx ((((Only.refl _ w).drew)).trans ox)
      have HC := Lib.hid hc; clear hc
      go_wp2_with fail
      refine HC.out.mono ?_
      rintro e w6 ⟨v6, rfl, h6, o6⟩
      go_wp2_with fail
      exact ⟨rfl, _, rfl, HTT.out _ _ (h6.bytes) (o6)⟩
    · intro x wx ox hN TT HTT
      have r14 : (fun (v : Value) (w1 : World) => Bytes w1 v L) (x 3) wx := hN.1 rfl
      clear hN
      unfold StepTo
      simp only [putAll, Act.put, List.setIfInBounds_toArray, List.set_cons_succ, List.set_cons_zero]
      have hcv := r14.conv
      go_wp2_with fail
      exact ⟨rfl, _, rfl, HTT.out _ _ (rfl) (Only.refl _ _)⟩
    · intro x wx ox hN TT HTT
      clear hN
      unfold StepTo
      simp only [putAll, Act.put, List.setIfInBounds_toArray, List.set_cons_succ, List.set_cons_zero]
      go_wp2_with fail
      exact ⟨rfl, _, rfl, HTT.out _ _ (rfl) (Only.refl _ _)⟩
    · intro x wx ox hN TT HTT
      have r16 : x 5 = (.slice a l.length c) := hN.1 rfl
      clear hN
      unfold StepTo
      simp only [putAll, Act.put, List.setIfInBounds_toArray, List.set_cons_succ, List.set_cons_zero, r16]
      clear r16
      have hcv := (HB.out.still ((((Only.refl _ w).drew)).trans ox)).conv
      go_wp2_with fail
      exact ⟨rfl, _, rfl, HTT.out _ _ (rfl) (Only.refl _ _)⟩
    intro xa wxa oxa hN
    have r11 : xa 0 = (.slice a l.length c) := hN.1
    have r12 : xa 1 = (.int .i64 n) := hN.2.1
    have r13 : xa 2 = (.slice a n c) := hN.2.2.1
    have r14 : (fun (v : Value) (w1 : World) => Bytes w1 v L) (xa 3) wxa := hN.2.2.2.1
    have r15 : xa 4 = (.string ⟨L.toArray⟩) := hN.2.2.2.2.1
    have r16 : xa 5 = (.slice a l.length c) := hN.2.2.2.2.2.1
    have r17 : xa 6 = (.string ⟨l.toArray⟩) := hN.2.2.2.2.2.2.1
    clear hN
    simp only [putAll, Act.put, List.setIfInBounds_toArray, List.set_cons_succ, List.set_cons_zero, r11, r12, r13, r15, r16, r17]
    clear r11 r12 r13 r15 r16 r17
    go_wp2_with fail
    go_ret2
    have oo := (((Only.refl (fun _ => False) w).drew)).trans oxa
    exact ⟨oo, .inr (.inl ⟨by have := H4.out; omega, fun h => HSL.out (HSI.out.1 h), rfl⟩)⟩
end Go.Proofs.Ytoojnpafcdaflaa
