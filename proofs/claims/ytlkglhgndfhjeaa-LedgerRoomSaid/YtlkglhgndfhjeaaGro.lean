/- columbarylaw02.LedgerRoom: the walk. -/
import Derived.Test.YtlkglhgndfhjeaaGkb
import Derived.Deep.CutRange
import Derived.Deep.CutBlock
namespace Go.Proofs.Ytlkglhgndfhjeaa
open Go Go.RowKit
set_option linter.unusedVariables false
set_option linter.unusedSimpArgs false
set_option maxRecDepth 100000

theorem acode_zero {R x : Nat} {fs : List (List UInt8)} (hx : x ≤ 4000) (h : sizes fs + (x + 8) ≤ R) (p : List UInt8) (hp : p.length = x) : acode R fs p = 0 ∧ afs R fs p = fs ++ [p] := by
  have e : acode R fs p = 0 := by unfold acode; rw [hp, if_neg (by omega), if_neg (by omega)]
  exact ⟨e, by unfold afs; rw [e, if_pos rfl]⟩
theorem acode_full {R x : Nat} {fs : List (List UInt8)} (hx : x ≤ 4000) (h : R < sizes fs + (x + 8)) (p : List UInt8) (hp : p.length = x) : acode R fs p = 13 ∧ afs R fs p = fs := by
  have e : acode R fs p = 13 := by unfold acode; rw [hp, if_neg (by omega), if_pos h]
  exact ⟨e, by unfold afs; rw [e, if_neg (by decide)]⟩
set_option maxHeartbeats 8000000 in
theorem room02 (n : Int) (v : Value) (zs : List UInt8) (w : World) (hn : 0 ≤ n ∧ n ≤ 255) (hz : Bytes w v zs) :
    Calls Try.prog 12 #[.int .u8 n, v] w fun e w' => e = .returned (.bool true) ∧ Below w.heap.size w w' := by
  have hz' := hz
  obtain ⟨aZ, cZ, rfl, hc1, hc2, hz3⟩ := hz
  obtain ⟨hn0, hn1⟩ := hn
  have hl0 : (0 : Int) ≤ (zs.length : Int) := by omega
  have hl9 : (zs.length : Int) ≤ 9223372036854775807 := by omega
  have HZ := Lib.hid hz3; clear hz3 hz'
  obtain ⟨r, hr, hr0, hr1⟩ : ∃ r, n % 10 = r ∧ 0 ≤ r ∧ r < 10 := ⟨_, rfl, by omega, by omega⟩
  obtain ⟨h, hh⟩ : ∃ h : Nat, 2 * (h : Int) = 4 + 2 * r := ⟨(2 + r).toNat, by omega⟩
  have hh2 : 2 ≤ h ∧ h ≤ 11 := by omega
  have HR := Lib.hid hr; have HH := Lib.hid hh; have HH2 := Lib.hid hh2
  clear hr hh
  go_enter Try.func12, Try.ntmps12
  go_wp2_with fail
  refine (awake02 w).mono ?_
  rintro e w1 ⟨rfl, o1⟩
  have hop := lu_lawopen w h w1 o1 (by omega)
  have HOP := Lib.hid hop; clear hop o1
  go_upto_region 4 with (fail)
  have en : 4 + 2 * (n % 10) = ((2 * h : Nat) : Int) := by have := HH.out; have := HR.out; omega
  rw [en]
  obtain ⟨nn, hnn⟩ : ∃ nn, 2 * h = nn := ⟨_, rfl⟩
  rw [hnn] at HOP ⊢
  have HNN := Lib.hid hnn
  clear en hnn hr0 hr1
  go_wp2_with fail
  refine HOP.out.mono ?_
  rintro e w2 ⟨d, l, rfl, hs, o2⟩
  obtain ⟨R, hR⟩ : ∃ R, (h - 1) * 64 = R := ⟨_, rfl⟩
  have hRb : 64 ≤ R ∧ R ≤ 640 := by omega
  have hlf := lu_left w _ d l _ 1 h _ [[]] w2 hs
  rw [hR, show ((sizes [[]] : Nat) : Int) = 8 from rfl] at hlf
  have e8 : (R : Int) - 8 = ((R - sizes [[]] : Nat) : Int) := by show (R : Int) - 8 = ((R - 8 : Nat) : Int); omega
  rw [e8] at hlf
  have HLF := Lib.hid hlf; have HS := Lib.hid hs; have HRR := Lib.hid hR; have HRB := Lib.hid hRb
  clear hlf hs o2 hR e8 hRb
  go_wp2_with fail
  refine HLF.out.mono ?_
  rintro e w3 ⟨rfl, n3, rfl⟩
  obtain ⟨b9, hb9⟩ : ∃ b9, b9 = w2.heap.size := ⟨_, rfl⟩
  have hg := (HS.out.still ((Only.refl (fun _ => False) w2).drewN n3)).grow ((Only.refl (fun _ => False) (w2.drewN n3)).alloc (.cells #[.string ⟨#[]⟩, .slice none 0 0] 68))
  have hg2 := hg.less (U' := fun k => k = b9) (fun k hk => .inr (by subst hk; rw [hb9]; exact ⟨Nat.le_refl _, by simp⟩))
  have hkb : KB ((w2.drewN n3).alloc (.cells #[.string ⟨#[]⟩, .slice none 0 0] 68)) (fun k => k = b9) b9 [] [] := ⟨none, 0, by rw [hb9]; exact heap_new _ _, rfl, Nat.le_refl _, Nat.zero_le _, fun h => absurd h (by simp)⟩
  have HG := Lib.hid hg2; have HKB := Lib.hid hkb; have HB9 := Lib.hid hb9
  clear hg hg2 hkb
  go_upto_block 0 with (fail)
  rw [← hb9]
  clear hb9
  go_cut [8] from 10 to 73 (fun v w' => ∃ (rs : List (List UInt8)) (U : Nat → Prop), v = .int .i64 ((R - sizes ([] :: rs) : Nat) : Int) ∧ Hid (LU w U w' d l 5000 1 h (nn + 1) ([] :: rs)) ∧ Hid (KB w' U b9 [] rs) ∧ rs.length ≤ 40)
  case first =>
    go_wp2_with fail
    go_loopw [8, 10] (fun v8 v10 wr => ∃ (i : Nat) (rs : List (List UInt8)) (U : Nat → Prop), v8 = .int .i64 ((R - sizes ([] :: rs) : Nat) : Int) ∧ v10 = .int .i64 (i : Int) ∧ i ≤ 40 ∧ i ≤ zs.length ∧ rs.length ≤ i ∧ Hid (LU w U wr d l (13 + 100 * i) 1 h (nn + 1) ([] :: rs)) ∧ Hid (KB wr U b9 [] rs)) (fun _ v _ => 40 - (intOf v).toNat)
    case atStart => exact ⟨0, [], _, rfl, by simp, by omega, by omega, by simp, Lib.hid (HG.out.more (n := 13 + 100 * 0) (by have := HH2.out; omega) (by decide)), HKB⟩
    case round =>
      obtain ⟨i, rs, U, rfl, rfl, hi40, hil, hri, HL, HK⟩ := hrel
      have hfit := HL.out.fits.1
      rw [HRR.out] at hfit
      obtain ⟨S, hS⟩ : ∃ S, sizes ([] :: rs) = S := ⟨_, rfl⟩
      obtain ⟨L, hL⟩ : ∃ L, R - S = L := ⟨_, rfl⟩
      rw [hS] at hfit ⊢
      rw [hL]
      have HSS := Lib.hid hS; have HLL := Lib.hid hL
      have hLb : L ≤ 640 := by have := HRB.out; omega
      have hRS : S + L = R := by omega
      have HRS := Lib.hid hRS
      clear hS hL hRS hfit
      by_cases hlt : i < zs.length ∧ i < 40
      · obtain ⟨hl1, hl2⟩ := hlt
        have t1 : decide ((i : Int) < (zs.length : Int)) = true := by simp; omega
        have t2 : decide ((i : Int) < 40) = true := by simp; omega
        obtain ⟨bz, off, rfl, hbz, hrz⟩ := HZ.out (by omega)
        have hcz : wr.cell? ⟨bz, off + i, none⟩ = some (.int .u8 (zs[i].toNat : Int)) := by
          rw [cell_only HL.out.old (a := ⟨bz, _, none⟩) hbz (fun h => h)]
          exact hrz i _ (by simp [u8s, hl1])
        have hxb := zs[i].toNat_lt
        obtain ⟨x, hx⟩ : ∃ x, zs[i].toNat = x := ⟨_, rfl⟩
        rw [hx] at hcz hxb
        have x0 : (0 : Int) ≤ (x : Int) := by omega
        have x1 : (x : Int) ≤ 255 := by omega
        have ii0 : (0 : Int) ≤ (i : Int) := by omega
        have ii1 : (i : Int) < (zs.length : Int) := by omega
        have hmk := make_n .u8 x (by omega) wr
        obtain ⟨p, hp⟩ : ∃ p, p = List.replicate x (0 : UInt8) := ⟨_, rfl⟩
        have hpl : p.length = x := by rw [hp, List.length_replicate]
        rw [← hp] at hmk
        have o5 := (Only.refl (fun _ => False) wr).alloc (.cells (u8s p).toArray 5)
        have hb5 : Bytes (wr.alloc (.cells (u8s p).toArray 5)) (.slice (some ⟨wr.heap.size, 0, none⟩) p.length p.length) p := bytes_new wr p _ _ _ (Nat.le_refl _) (by omega) rfl
        obtain ⟨U5, hU5⟩ : ∃ U5 : Nat → Prop, U5 = fun k => U k ∨ (wr.heap.size ≤ k ∧ k < (wr.alloc (.cells (u8s p).toArray 5)).heap.size) := ⟨_, rfl⟩
        have hs5 := HL.out.grow o5
        rw [← hU5] at hs5
        have hk5 : KB (wr.alloc (.cells (u8s p).toArray 5)) U5 b9 [] rs := (HK.out.only o5 (fun _ _ h => h)).mono (fun k hk => by rw [hU5]; exact .inl hk)
        have hgU : U5 wr.heap.size := by rw [hU5]; exact .inr ⟨Nat.le_refl _, by simp⟩
        obtain ⟨g5, hg5⟩ : ∃ g5, g5 = wr.heap.size := ⟨_, rfl⟩
        rw [← hg5] at hmk hb5 hgU
        obtain ⟨w5, hw5⟩ : ∃ w5, w5 = wr.alloc (.cells (u8s p).toArray 5) := ⟨_, rfl⟩
        rw [← hw5] at hmk hb5 hs5 hk5
        have hap := lu_append w U5 d l _ 1 h _ ([] :: rs) _ p w5 hs5 hb5 (by omega) (by omega)
        rw [HRR.out] at hap
        have hnd := fun w' => need_any (x : Int) w' x0 (by omega)
        have HX := Lib.hid hpl; have HS5 := Lib.hid hs5; have HK5 := Lib.hid hk5; have HB5 := Lib.hid hb5; have HGU := Lib.hid hgU; have HND := Lib.hid hnd
        rw [hpl] at hap
        have hbb := hb5
        rw [hpl] at hbb
        have HBB := Lib.hid hbb
        by_cases hfx : x + 8 ≤ L
        · obtain ⟨ea, ef⟩ := acode_zero (R := R) (x := x) (fs := [] :: rs) (by omega) (by rw [HSS.out]; have := HRS.out; omega) p hpl
          rw [ea, ef] at hap
          have HAP := Lib.hid hap
          have t3 : decide ((x : Int) + 8 ≤ (L : Int)) = true := by simp; omega
          clear hp hpl o5 hU5 hg5 hw5 hs5 hk5 hb5 hgU hap hnd ea ef hx hrz hbb
          go_wp2_with fail
          refine HAP.out.mono ?_
          rintro e w6 ⟨rfl, hs6, o6⟩
          have hk6 := HK5.out.only o6 (fun k hk hs => hs.2 hk)
          have hb6 := HBB.out.only o6 (fun _ k hk hs => hs.2 (by cases hk; exact HGU.out))
          have HS6 := Lib.hid hs6; have HK6 := Lib.hid hk6; have HB6 := Lib.hid hb6
          clear hs6 hk6 hb6 o6
          have hd := fun w' => need_any (x : Int) w' x0 (by omega)
          go_wp2_with fail
          refine (hd _).mono ?_
          rintro e w7 ⟨rfl, rfl⟩
          go_wp2_with fail
          refine (hd _).mono ?_
          rintro e w7 ⟨rfl, rfl⟩
          obtain ⟨aK, cK, y0, y1, yz, hkv⟩ := HK6.out.val
          have hwi := with_any _ _ _ [] p rs w6 hkv HB6.out (by omega)
          have hnl : (rs ++ [p]).length = rs.length + 1 := by simp
          have hsz9 : sizes ([] :: (rs ++ [p])) = S + (x + 8) := by
            have := sizes_snoc ([] :: rs) p
            rw [HSS.out, HX.out] at this; exact this
          obtain ⟨rs9, hrs9⟩ : ∃ rs9, rs ++ [p] = rs9 := ⟨_, rfl⟩
          rw [hrs9] at hwi hnl hsz9
          have HNL := Lib.hid hnl; have HSZ9 := Lib.hid hsz9; have HRS9 := Lib.hid hrs9
          clear hnl hsz9 hrs9
          have HWI := Lib.hid hwi; clear hwi hkv
          go_wp2_with fail
          refine HWI.out.mono ?_
          rintro e w8 ⟨v8, rfl, ⟨a8, c8, rfl, hr1, hr2, hst8⟩, o8⟩
          rw [show strR [] = .string ⟨#[]⟩ from rfl]
          have hg8 := HS6.out.grow o8
          obtain ⟨U8, hU8⟩ : ∃ U8 : Nat → Prop, U8 = fun k => U5 k ∨ (w6.heap.size ≤ k ∧ k < w8.heap.size) := ⟨_, rfl⟩
          rw [← hU8] at hg8
          have hk8 : KB w8 U8 b9 [] rs := (HK6.out.only o8 (fun _ _ h => h)).mono (fun k hk => by rw [hU8]; exact .inl hk)
          have hb9l : b9 < w6.heap.size := by obtain ⟨_, _, q, _⟩ := HK6.out; exact (Array.getElem?_eq_some_iff.1 q).1
          obtain ⟨aO, cO, hO, _⟩ := hk8
          have hkv8 : KeptV w8 (fun k => U8 k ∧ k ≠ b9) (.agg #[.string ⟨([] : List UInt8).toArray⟩, .slice a8 rs9.length c8]) [] rs9 := ⟨a8, c8, rfl, hr1, hr2, hst8.weaken (fun k hk h => ⟨by rw [hU8]; exact .inr ⟨h, hk⟩, by omega⟩)⟩
          have hk8 : KB w8 U8 b9 [] rs := (HK6.out.only o8 (fun _ _ h => h)).mono (fun k hk => by rw [hU8]; exact .inl hk)
          have HK8 := Lib.hid hk8; have HG8 := Lib.hid hg8; have HO8 := Lib.hid hO; have HKV8 := Lib.hid hkv8
          clear hk8 hg8 hO hkv8 hst8 hU8 y0 y1 yz o8
          obtain ⟨z0, z1, zz, _⟩ := cell2 HO8.out
          rw [show strR [] = .string ⟨#[]⟩ from rfl] at z0
          have hh9 := heap_set (o := 1) (heap_set (o := 0) HO8.out (.string ⟨#[]⟩)) (.slice a8 rs9.length c8)
          have hh9' : ((w8.setCell ⟨b9, 0, none⟩ (.string ⟨#[]⟩)).setCell ⟨b9, 1, none⟩ (.slice a8 rs9.length c8)).heap[b9]? = some (.cells #[strR [], .slice a8 rs9.length c8] 68 (0, 0)) := by simpa [strR] using hh9
          have k2 := ((Only.refl (fun q => q = b9) w8).setCell (p := ⟨b9, 0, none⟩) (.inl rfl) (.string ⟨#[]⟩)).setCell (p := ⟨b9, 1, none⟩) (.inl rfl) (.slice a8 rs9.length c8)
          have hk9 := HK8.out.put HKV8.out k2 hh9' (fun k hk => hk)
          have hWb : w.heap.size ≤ b9 := by rw [HB9.out]; exact HS.out.old.size
          have hUb : U8 b9 := by obtain ⟨_, _, _, q, _⟩ := HK8.out; exact q
          have hs9' := HG8.out.only k2 (fun k _ e => by subst e; exact ⟨hWb, hUb⟩)
          have hs9 := hs9'
          have hlf := lu_left w _ d l _ 1 h _ _ _ hs9
          rw [show ([] :: rs ++ [p] : List (List UInt8)) = [] :: (rs ++ [p]) from rfl, HRS9.out] at hs9
          clear hs9'
          have eL : (R : Int) - ((S + (x + 8) : Nat) : Int) = (L : Int) - ((x : Int) + 8) := by have := HRS.out; omega
          rw [HRR.out, show ([] :: rs ++ [p] : List (List UInt8)) = [] :: (rs ++ [p]) from rfl, HRS9.out, HSZ9.out, eL] at hlf
          have hfin : (.int .i64 ((L : Int) - ((x : Int) + 8)) : Value) = .int .i64 ((R - sizes ([] :: rs9) : Nat) : Int) := by
            rw [HSZ9.out]; congr 1; have := HRS.out; omega
          have HK9 := Lib.hid hk9; have HS9 := Lib.hid hs9; have HLF9 := Lib.hid hlf; have HFN := Lib.hid hfin;
          clear hh9 hh9' k2 hk9 hs9 hlf hfin eL
          go_wp2_with fail
          refine HLF9.out.mono ?_
          rintro e w10 ⟨rfl, n10, rfl⟩
          have HK10 := Lib.hid (HK9.out.only ((Only.refl (fun _ => False) _).drewN n10) (fun _ _ h => h)); have HS10 := Lib.hid ((HS9.out.still ((Only.refl (fun _ => False) _).drewN n10)).more (n := 13 + 100 * (i + 1)) (by omega) (by omega))
          clear z0 z1 zz
          go_wp2_with fail
          go_roundw
          case rel => exact ⟨i + 1, rs9, U8, HFN.out, by simp [go_sem], by omega, by omega, by rw [HNL.out]; omega, HS10, HK10⟩
          case measure => simp [intOf]; omega
        · obtain ⟨ea, ef⟩ := acode_full (R := R) (x := x) (fs := [] :: rs) (by omega) (by rw [HSS.out]; have := HRS.out; omega) p hpl
          rw [ea, ef] at hap
          have HAP := Lib.hid hap
          have t3 : decide ((x : Int) + 8 ≤ (L : Int)) = false := by simp; omega
          have eL : (R : Int) - (S : Int) = (L : Int) := by have := HRS.out; omega
          have EL := Lib.hid eL
          clear hp hpl o5 hU5 hg5 hw5 hs5 hk5 hb5 hgU hap hnd ea ef hx hrz hbb eL
          go_wp2_with fail
          refine HAP.out.mono ?_
          rintro e w6 ⟨rfl, hs6, o6⟩
          have hk6 := HK5.out.only o6 (fun k hk hs => hs.2 hk)
          have hlf := lu_left w _ d l _ 1 h _ _ _ hs6
          rw [HRR.out, HSS.out, EL.out] at hlf
          have HS6 := Lib.hid hs6; have HK6 := Lib.hid hk6; have HLF6 := Lib.hid hlf
          clear hs6 hk6 o6 hlf
          have hd := fun w' => need_any (x : Int) w' x0 (by omega)
          go_wp2_with fail
          refine (hd _).mono ?_
          rintro e w7 ⟨rfl, rfl⟩
          go_wp2_with fail
          refine HLF6.out.mono ?_
          rintro e w10 ⟨rfl, n10, rfl⟩
          have HK10 := Lib.hid (HK6.out.only ((Only.refl (fun _ => False) _).drewN n10) (fun _ _ h => h)); have HS10 := Lib.hid ((HS6.out.still ((Only.refl (fun _ => False) _).drewN n10)).more (n := 13 + 100 * (i + 1)) (by omega) (by omega))
          have hfin : (.int .i64 (L : Int) : Value) = .int .i64 ((R - sizes ([] :: rs) : Nat) : Int) := by rw [HSS.out, HLL.out]
          have HFN := Lib.hid hfin; clear hfin
          go_wp2_with fail
          go_roundw
          case rel => exact ⟨i + 1, rs, U5, HFN.out, by simp [go_sem], by omega, by omega, by omega, HS10, HK10⟩
          case measure => simp [intOf]; omega
      · have hex : ∃ (rs' : List (List UInt8)) (U' : Nat → Prop), (.int .i64 (L : Int) : Value) = .int .i64 ((R - sizes ([] :: rs') : Nat) : Int) ∧ Hid (LU w U' wr d l 5000 1 h (nn + 1) ([] :: rs')) ∧ Hid (KB wr U' b9 [] rs') ∧ rs'.length ≤ 40 := ⟨rs, U, by rw [HSS.out, HLL.out], Lib.hid (HL.out.more (by omega) (by decide)), HK, by omega⟩
        have HEX := Lib.hid hex; clear hex
        by_cases hl1 : i < zs.length
        · have t1 : decide ((i : Int) < (zs.length : Int)) = true := by simp; omega
          have t2 : decide ((i : Int) < 40) = false := by simp; omega
          go_wp2_with fail
          go_meet
          case rel => exact HEX.out
        · have t1 : decide ((i : Int) < (zs.length : Int)) = false := by simp; omega
          go_wp2_with fail
          go_meet
          case rel => exact HEX.out
  case rest =>
    obtain ⟨rs, U, rfl, HL, HK, hri⟩ := hcut
    have hfit := HL.out.fits.1
    rw [HRR.out] at hfit
    obtain ⟨S, hS⟩ : ∃ S, sizes ([] :: rs) = S := ⟨_, rfl⟩
    obtain ⟨L, hL⟩ : ∃ L, R - S = L := ⟨_, rfl⟩
    rw [hS] at hfit ⊢
    rw [hL]
    have HSS := Lib.hid hS
    have hLb : L ≤ 640 := by have := HRB.out; omega
    have hRS : S + L = R := by omega
    have HRS := Lib.hid hRS
    clear hS hL hRS hfit
    obtain ⟨wp, rfl⟩ : ∃ wp, wp = wc := ⟨wc, rfl⟩
    have hL1 : (L : Int) ≤ 640 := by omega
    have hL0 : (0 : Int) ≤ (L : Int) := by omega
    obtain ⟨b8, hb8⟩ : ∃ b8, decide (8 ≤ L) = b8 := ⟨_, rfl⟩
    have HB8 := Lib.hid hb8; clear hb8
    go_upto_region 21 with (fail)
    go_cut [80] from 74 to 80 (fun v w' => v = .bool b8 ∧ w' = wp)
    case first =>
      have hb8 := HB8.out
      have t2 : decide ((L : Int) - 8 ≤ 4000) = true := by simp; omega
      cases b8 with
      | true =>
        have t1 : decide ((8 : Int) ≤ (L : Int)) = true := by have := of_decide_eq_true hb8; simp; omega
        clear hb8
        go_wp2
        go_meet
        case rel => exact ⟨rfl, rfl⟩
      | false =>
        have t1 : decide ((8 : Int) ≤ (L : Int)) = false := by have := of_decide_eq_false hb8; simp; omega
        clear hb8
        go_wp2
        go_meet
        case rel => exact ⟨rfl, rfl⟩
    case rest =>
    obtain ⟨rfl, hwc⟩ := hcut
    rw [hwc]
    clear hwc
    go_upto_if 80 with (fail)
    go_cut [] from 13 to 100 (fun w' => ∃ (rs' : List (List UInt8)) (U' : Nat → Prop), Hid (LU w U' w' d l 5300 1 h (nn + 1) ([] :: rs')) ∧ Hid (KB w' U' b9 [] rs') ∧ rs'.length ≤ 41)
    case first =>
      cases b8 with
      | true =>
        have h8 : 8 ≤ L := of_decide_eq_true HB8.out
        obtain ⟨x, hx⟩ : ∃ x, L = x + 8 := ⟨L - 8, by omega⟩
        have ex : (L : Int) - 8 = (x : Int) := by omega
        have hmk := make_n .i64 x (by omega) wp
        rw [← ex] at hmk
        obtain ⟨p, hp⟩ : ∃ p, p = List.replicate x (0 : UInt8) := ⟨_, rfl⟩
        have hpl : p.length = x := by rw [hp, List.length_replicate]
        rw [← hp] at hmk
        have o5 := (Only.refl (fun _ => False) wp).alloc (.cells (u8s p).toArray 5)
        have hb5 : Bytes (wp.alloc (.cells (u8s p).toArray 5)) (.slice (some ⟨wp.heap.size, 0, none⟩) p.length p.length) p := bytes_new wp p _ _ _ (Nat.le_refl _) (by omega) rfl
        obtain ⟨U5, hU5⟩ : ∃ U5 : Nat → Prop, U5 = fun k => U k ∨ (wp.heap.size ≤ k ∧ k < (wp.alloc (.cells (u8s p).toArray 5)).heap.size) := ⟨_, rfl⟩
        have hs5 := HL.out.grow o5
        rw [← hU5] at hs5
        have hk5 : KB (wp.alloc (.cells (u8s p).toArray 5)) U5 b9 [] rs := (HK.out.only o5 (fun _ _ h => h)).mono (fun k hk => by rw [hU5]; exact .inl hk)
        have hgU : U5 wp.heap.size := by rw [hU5]; exact .inr ⟨Nat.le_refl _, by simp⟩
        obtain ⟨g5, hg5⟩ : ∃ g5, g5 = wp.heap.size := ⟨_, rfl⟩
        rw [← hg5] at hmk hb5 hgU
        obtain ⟨w5, hw5⟩ : ∃ w5, w5 = wp.alloc (.cells (u8s p).toArray 5) := ⟨_, rfl⟩
        rw [← hw5] at hmk hb5 hs5 hk5
        have hap := lu_append w U5 d l _ 1 h _ ([] :: rs) _ p w5 hs5 hb5 (by omega) (by omega)
        rw [HRR.out] at hap
        obtain ⟨ea, ef⟩ := acode_zero (R := R) (x := x) (fs := [] :: rs) (by omega) (by rw [HSS.out]; have := HRS.out; omega) p hpl
        rw [ea, ef, hpl] at hap
        rw [hpl] at hb5
        have hsz9 : sizes ([] :: (rs ++ [p])) = R := by
          have := sizes_snoc ([] :: rs) p
          rw [HSS.out, hpl] at this
          have e : sizes ([] :: (rs ++ [p])) = S + (x + 8) := this
          rw [e]; have := HRS.out; omega
        have hnl : (rs ++ [p]).length = rs.length + 1 := by simp
        obtain ⟨rs9, hrs9⟩ : ∃ rs9, rs ++ [p] = rs9 := ⟨_, rfl⟩
        rw [show ([] :: rs ++ [p] : List (List UInt8)) = [] :: (rs ++ [p]) from rfl, hrs9] at hap
        rw [hrs9] at hsz9 hnl
        have HAP := Lib.hid hap; have HK5 := Lib.hid hk5; have HB5 := Lib.hid hb5; have HGU := Lib.hid hgU; have HSZ9 := Lib.hid hsz9; have HNL := Lib.hid hnl; have HRS9 := Lib.hid hrs9
        clear hp hpl o5 hU5 hg5 hw5 hs5 hk5 hb5 hgU hap ea ef hsz9 hnl hrs9 hx ex
        go_wp2_with fail
        refine HAP.out.mono ?_
        rintro e w6 ⟨rfl, hs6, o6⟩
        have hk6 := HK5.out.only o6 (fun k hk hs => hs.2 hk)
        have hb6 := HB5.out.only o6 (fun _ k hk hs => hs.2 (by cases hk; exact HGU.out))
        have hlf := lu_left w _ d l _ 1 h _ _ _ hs6
        rw [HRR.out, HSZ9.out, Int.sub_self] at hlf
        have HS6 := Lib.hid hs6; have HK6 := Lib.hid hk6; have HB6 := Lib.hid hb6; have HLF6 := Lib.hid hlf
        clear hs6 hk6 hb6 o6 hlf hmk
        go_wp2_with fail
        refine HLF6.out.mono ?_
        rintro e w7 ⟨rfl, n7, rfl⟩
        have o7 := (Only.refl (fun _ => False) w6).drewN n7
        have hs7 := HS6.out.still o7
        have hap7 := lu_append w U5 d l _ 1 h _ ([] :: rs9) _ [] _ hs7 (Bytes.nil _) (by decide) (by omega)
        rw [HRR.out] at hap7
        obtain ⟨ea, ef⟩ := acode_full (R := R) (x := 0) (fs := [] :: rs9) (by decide) (by rw [HSZ9.out]; omega) [] rfl
        rw [ea, ef] at hap7
        have HAP7 := Lib.hid hap7; have HK7 := Lib.hid (HK6.out.only o7 (fun _ _ h => h)); have HB7 := Lib.hid (HB6.out.still o7)
        clear o7 hs7 hap7 ea ef
        go_wp2_with fail
        refine HAP7.out.mono ?_
        rintro e w8 ⟨rfl, hs8, o8⟩
        have hk8 := HK7.out.only o8 (fun k hk hs => hs.2 hk)
        have hb8 := HB7.out.only o8 (fun _ k hk hs => hs.2 (by cases hk; exact HGU.out))
        obtain ⟨aK, cK, y0, y1, yz, hkv⟩ := hk8.val
        have hwi := with_any _ _ _ [] p rs w8 hkv hb8 (by omega)
        rw [HRS9.out] at hwi
        have HWI := Lib.hid hwi; have HS8 := Lib.hid hs8; have HK8 := Lib.hid hk8
        clear hwi hkv hs8 hk8 hb8 o8
        go_wp2_with fail
        refine HWI.out.mono ?_
        rintro e w9 ⟨v9, rfl, ⟨a9, c9, rfl, hr1, hr2, hst9⟩, o9⟩
        rw [show strR [] = .string ⟨#[]⟩ from rfl]
        have hg9 := HS8.out.grow o9
        obtain ⟨U9, hU9⟩ : ∃ U9 : Nat → Prop, U9 = fun k => U5 k ∨ (w8.heap.size ≤ k ∧ k < w9.heap.size) := ⟨_, rfl⟩
        rw [← hU9] at hg9
        have hk9 : KB w9 U9 b9 [] rs := (HK8.out.only o9 (fun _ _ h => h)).mono (fun k hk => by rw [hU9]; exact .inl hk)
        have hb9l : b9 < w8.heap.size := by obtain ⟨_, _, q, _⟩ := HK8.out; exact (Array.getElem?_eq_some_iff.1 q).1
        have hkv9 : KeptV w9 (fun k => U9 k ∧ k ≠ b9) (.agg #[.string ⟨([] : List UInt8).toArray⟩, .slice a9 rs9.length c9]) [] rs9 := ⟨a9, c9, rfl, hr1, hr2, hst9.weaken (fun k hk h => ⟨by rw [hU9]; exact .inr ⟨h, hk⟩, by omega⟩)⟩
        obtain ⟨aO, cO, hO, _⟩ := id hk9
        obtain ⟨z0, z1, zz, _⟩ := cell2 hO
        rw [show strR [] = .string ⟨#[]⟩ from rfl] at z0
        have hh9 := heap_set (o := 1) (heap_set (o := 0) hO (.string ⟨#[]⟩)) (.slice a9 rs9.length c9)
        have hh9' : ((w9.setCell ⟨b9, 0, none⟩ (.string ⟨#[]⟩)).setCell ⟨b9, 1, none⟩ (.slice a9 rs9.length c9)).heap[b9]? = some (.cells #[strR [], .slice a9 rs9.length c9] 68 (0, 0)) := by simpa [strR] using hh9
        have k2 := ((Only.refl (fun q => q = b9) w9).setCell (p := ⟨b9, 0, none⟩) (.inl rfl) (.string ⟨#[]⟩)).setCell (p := ⟨b9, 1, none⟩) (.inl rfl) (.slice a9 rs9.length c9)
        have hk10 := hk9.put hkv9 k2 hh9' (fun k hk => hk)
        have hWb : w.heap.size ≤ b9 := by rw [HB9.out]; exact HS.out.old.size
        have hUb : U9 b9 := by obtain ⟨_, _, _, q, _⟩ := hk9; exact q
        have hs10 := hg9.only k2 (fun k _ e => by subst e; exact ⟨hWb, hUb⟩)
        have HK10 := Lib.hid hk10; have HS10 := Lib.hid (hs10.more (n := 5300) (by omega) (by decide))
        clear hh9 hh9' k2 hk10 hs10 hg9 hk9 hkv9 hO hU9 hst9 o9 y0 y1 yz
        go_wp2_with fail
        go_meet
        case rel => exact ⟨rs9, U9, HS10, HK10, by rw [HNL.out]; omega⟩
      | false =>
        go_wp2_with fail
        go_meet
        case rel => exact ⟨rs, U, Lib.hid (HL.out.more (by decide) (by decide)), HK, by omega⟩
    case rest =>
      obtain ⟨rs', U', HL', HK', hri'⟩ := hcut
      obtain ⟨wq, rfl⟩ : ∃ wq, wq = wc := ⟨wc, rfl⟩
      have hop := lu_open w U' d l _ 1 h _ [] rs' wq HL'.out (by decide)
      rw [HNN.out, show ((1 : Nat) : Int) = 1 from rfl] at hop
      have HOP9 := Lib.hid hop; clear hop
      go_wp2_with fail
      refine HOP9.out.mono ?_
      rintro e w4 ⟨l', sv, av, rfl, hs4, hrec, _, o4⟩
      have hk4 := HK'.out.only o4 (fun k hk hs => hs.2 hk)
      obtain ⟨aK, cK, y0, y1, yz, hkv⟩ := hk4.val
      have hfa : ∀ w', Only (fun _ => False) w4 w' → w'.cell? ⟨b9, 0, none⟩ = some (.string ⟨#[]⟩) ∧ w'.cell? ⟨b9, 1, none⟩ = some (.slice aK rs'.length cK) ∧ KeptV w' U' (.agg #[.string ⟨#[]⟩, .slice aK rs'.length cK]) [] rs' ∧ Recs w' (fun k => wq.heap.size ≤ k) sv av [] rs' := fun w' o => by
        have hk := hk4.only o (fun _ _ h => h)
        have hb := cell_lt y0
        exact ⟨by rw [cell_only o (a := ⟨b9, 0, none⟩) hb (fun h => h)]; exact y0, by rw [cell_only o (a := ⟨b9, 1, none⟩) hb (fun h => h)]; exact y1, hkv.still o, hrec.only o (fun _ _ h => h)⟩
      have HFA := Lib.hid hfa; have HS4 := Lib.hid hs4.old
      clear hfa hs4 hrec hk4 y0 y1 yz hkv o4
      go_wp2_with fail
      refine wp_region_steps 9 (by kernel_rfl) rfl (by kernel_rfl) [some 109, some 110, some 111, some 112, some 113, some 114, some 115, some 116, some 117] rfl rfl (fun _ => False) [(fun v _ => v = (.int .i64 0)), (fun v _ => v = (.bool true)), (fun v _ => v = (.bool true)), (fun v _ => v = sv), (fun v _ => v = av), (fun v w1 => KeptV w1 (fun _ => True) v [] rs'), (fun v _ => v = (.agg #[.string ⟨#[]⟩, .slice aK rs'.length cK])), (fun v _ => v = (.bool true)), (fun v _ => v = (.bool true))] rfl ⟨?_, ?_, ?_, ?_, ?_, ?_, ?_, ?_, ?_, trivial⟩ _ rfl ⟨?_, ?_, ?_, ?_, ?_, ?_, ?_, ?_, ?_, trivial⟩ ?_
      · exact Stable.is _ _
      · exact Stable.is _ _
      · exact Stable.is _ _
      · exact Stable.is _ _
      · exact Stable.is _ _
      · exact fun v w1 w2 h ho => h.still ho
      · exact Stable.is _ _
      · exact Stable.is _ _
      · exact Stable.is _ _
      · intro x wx ox hN TT HTT
        clear hN
        unfold StepTo
        simp only [putAll, Act.put, List.setIfInBounds_toArray, List.set_cons_succ, List.set_cons_zero]
        go_wp2_with fail
        exact ⟨rfl, _, rfl, HTT.out _ _ (rfl) (Only.refl _ _)⟩
      · intro x wx ox hN TT HTT
        have r109 : x 0 = (.int .i64 0) := hN.1 rfl
        clear hN
        unfold StepTo
        simp only [putAll, Act.put, List.setIfInBounds_toArray, List.set_cons_succ, List.set_cons_zero, r109]
        clear r109
        go_wp2_with fail
        exact ⟨rfl, _, rfl, HTT.out _ _ (rfl) (Only.refl _ _)⟩
      · intro x wx ox hN TT HTT
        have r110 : x 1 = (.bool true) := hN.1 rfl
        clear hN
        unfold StepTo
        simp only [putAll, Act.put, List.setIfInBounds_toArray, List.set_cons_succ, List.set_cons_zero, r110]
        clear r110
        go_wp2_with fail
        exact ⟨rfl, _, rfl, HTT.out _ _ (rfl) (Only.refl _ _)⟩
      · intro x wx ox hN TT HTT
        have r111 : x 2 = (.bool true) := hN.1 rfl
        clear hN
        unfold StepTo
        simp only [putAll, Act.put, List.setIfInBounds_toArray, List.set_cons_succ, List.set_cons_zero, r111]
        clear r111
        go_wp2_with fail
        exact ⟨rfl, _, rfl, HTT.out _ _ (rfl) (Only.refl _ _)⟩
      · intro x wx ox hN TT HTT
        have r111 : x 2 = (.bool true) := hN.1 rfl
        clear hN
        unfold StepTo
        simp only [putAll, Act.put, List.setIfInBounds_toArray, List.set_cons_succ, List.set_cons_zero, r111]
        clear r111
        go_wp2_with fail
        exact ⟨rfl, _, rfl, HTT.out _ _ (rfl) (Only.refl _ _)⟩
      · intro x wx ox hN TT HTT
        have r112 : x 3 = sv := hN.1 rfl
        have r113 : x 4 = av := hN.2.1 rfl
        have r111 : x 2 = (.bool true) := hN.2.2.1 rfl
        clear hN
        unfold StepTo
        simp only [putAll, Act.put, List.setIfInBounds_toArray, List.set_cons_succ, List.set_cons_zero, r112, r113, r111]
        clear r112 r113 r111
        have hc := of_any _ sv av [] rs' wx (HFA.out wx (((Only.refl _ w4).drew).trans ox)).2.2.2 (by omega) (by decide)
        have HC := Lib.hid hc; clear hc
        go_wp2_with fail
        refine HC.out.mono ?_
        rintro e w6 ⟨v6, rfl, h6, o6⟩
        have H6 := Lib.hid h6; have O6 := Lib.hid o6; clear h6 o6
        go_wp2_with fail
        exact ⟨rfl, _, rfl, HTT.out _ _ (H6.out.weaken (fun _ _ _ => trivial)) (O6.out)⟩
      · intro x wx ox hN TT HTT
        have r111 : x 2 = (.bool true) := hN.1 rfl
        clear hN
        unfold StepTo
        simp only [putAll, Act.put, List.setIfInBounds_toArray, List.set_cons_succ, List.set_cons_zero, r111]
        clear r111
        obtain ⟨g0, g1, g2, g3⟩ := HFA.out wx (((Only.refl _ w4).drew).trans ox)
        clear g2 g3
        go_wp2_with fail
        exact ⟨rfl, _, rfl, HTT.out _ _ (rfl) (Only.refl _ _)⟩
      · intro x wx ox hN TT HTT
        have r114 : (fun (v : Value) (w1 : World) => KeptV w1 (fun _ => True) v [] rs') (x 5) wx := hN.1 rfl
        have r115 : x 6 = (.agg #[.string ⟨#[]⟩, .slice aK rs'.length cK]) := hN.2.1 rfl
        have r111 : x 2 = (.bool true) := hN.2.2.2.1 rfl
        clear hN
        unfold StepTo
        simp only [putAll, Act.put, List.setIfInBounds_toArray, List.set_cons_succ, List.set_cons_zero, r115, r111]
        clear r115 r111
        have hc := same_true _ _ _ _ [] rs' wx r114 (HFA.out wx (((Only.refl _ w4).drew).trans ox)).2.2.1 (by omega)
        have HC := Lib.hid hc; clear hc
        go_wp2_with fail
        refine HC.out.mono ?_
        rintro e w6 ⟨rfl, o6⟩
        have O6 := Lib.hid o6; clear o6
        go_wp2_with fail
        exact ⟨rfl, _, rfl, HTT.out _ _ (rfl) (O6.out)⟩
      · intro x wx ox hN TT HTT
        have r111 : x 2 = (.bool true) := hN.1 rfl
        have r116 : x 7 = (.bool true) := hN.2.1 rfl
        clear hN
        unfold StepTo
        simp only [putAll, Act.put, List.setIfInBounds_toArray, List.set_cons_succ, List.set_cons_zero, r111, r116]
        clear r111 r116
        go_wp2_with fail
        exact ⟨rfl, _, rfl, HTT.out _ _ (rfl) (Only.refl _ _)⟩
      intro xa wxa oxa hN
      have r109 : xa 0 = (.int .i64 0) := hN.1
      have r110 : xa 1 = (.bool true) := hN.2.1
      have r111 : xa 2 = (.bool true) := hN.2.2.1
      have r112 : xa 3 = sv := hN.2.2.2.1
      have r113 : xa 4 = av := hN.2.2.2.2.1
      have r114 : (fun (v : Value) (w1 : World) => KeptV w1 (fun _ => True) v [] rs') (xa 5) wxa := hN.2.2.2.2.2.1
      have r115 : xa 6 = (.agg #[.string ⟨#[]⟩, .slice aK rs'.length cK]) := hN.2.2.2.2.2.2.1
      have r116 : xa 7 = (.bool true) := hN.2.2.2.2.2.2.2.1
      have r117 : xa 8 = (.bool true) := hN.2.2.2.2.2.2.2.2.1
      clear hN
      simp only [putAll, Act.put, List.setIfInBounds_toArray, List.set_cons_succ, List.set_cons_zero, r109, r110, r111, r112, r113, r115, r116, r117]
      clear r109 r110 r111 r112 r113 r115 r116 r117
      have OF := Lib.hid (HS4.out.trans (((Only.refl (fun _ => False) w4).drew).trans oxa))
      clear r114
      go_wp2_with fail
      go_ret
      exact ⟨rfl, OF.out.still⟩
theorem room_walk (n : Int) (a : Option Addr) (len cap : Nat) (z : List Int) (w : World) (hn : (Lit.int .u8 n).wf = true) (hr : IsRow .u8 w a len cap z) :
    Calls Try.prog 12 #[.int .u8 n, .slice a len cap] w fun e w' => e = .returned (.bool true) ∧ Below w.heap.size w w' := by
  obtain ⟨l, rfl, hb, _⟩ := bytes_row hr
  exact room02 n _ l w (u8_bd hn) hb
end Go.Proofs.Ytlkglhgndfhjeaa
