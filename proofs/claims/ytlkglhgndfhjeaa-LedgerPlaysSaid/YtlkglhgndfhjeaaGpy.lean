/- columbarylaw02.LedgerPlays: the walk. -/
import Derived.Test.YtlkglhgndfhjeaaGpm
import Derived.Deep.CutRange
import Derived.Deep.CutBlock
namespace Go.Proofs.Ytlkglhgndfhjeaa
open Go Go.RowKit
set_option linter.unusedVariables false
set_option linter.unusedSimpArgs false
set_option maxRecDepth 100000

/-- The caller's Kept at b9, the copy of an act at ba. -/
def ActAt (w : World) (U : Nat → Prop) (b9 ba : Nat) (s : List UInt8) (rs : List (List UInt8)) (c0 c1 c2 c3 c4 : Value) : Prop :=
  KB w U b9 s rs ∧ U ba ∧ ba ≠ b9 ∧ w.heap[ba]? = some (.cells #[c0, c1, c2, c3, c4] 65 (0, 0))
theorem ActAt.only {S U : Nat → Prop} {w w' : World} {b9 ba : Nat} {s : List UInt8} {rs : List (List UInt8)} {c0 c1 c2 c3 c4 : Value} (h : ActAt w U b9 ba s rs c0 c1 c2 c3 c4) (ho : Only S w w') (hS : ∀ k, U k → ¬ S k) : ActAt w' U b9 ba s rs c0 c1 c2 c3 c4 :=
  ⟨h.1.only ho hS, h.2.1, h.2.2.1, by rw [ho.block ba (Array.getElem?_eq_some_iff.1 h.2.2.2).1 (hS ba h.2.1)]; exact h.2.2.2⟩
theorem ActAt.mono {U U' : Nat → Prop} {w : World} {b9 ba : Nat} {s : List UInt8} {rs : List (List UInt8)} {c0 c1 c2 c3 c4 : Value} (h : ActAt w U b9 ba s rs c0 c1 c2 c3 c4) (hU : ∀ k, U k → U' k) : ActAt w U' b9 ba s rs c0 c1 c2 c3 c4 :=
  ⟨h.1.mono hU, hU ba h.2.1, h.2.2⟩
theorem ActAt.cells {U : Nat → Prop} {w : World} {b9 ba : Nat} {s : List UInt8} {rs : List (List UInt8)} {c0 c1 c2 c3 c4 : Value} (h : ActAt w U b9 ba s rs c0 c1 c2 c3 c4) : w.cell? ⟨ba, 0, none⟩ = some c0 ∧ w.cell? ⟨ba, 1, none⟩ = some c1 ∧ w.cell? ⟨ba, 3, none⟩ = some c3 ∧ w.cell? ⟨ba, 4, none⟩ = some c4 := by
  have h := h.2.2.2
  refine ⟨?_, ?_, ?_, ?_⟩ <;> simp [World.cell?, h]
theorem sizes_put (s p : List UInt8) (rs : List (List UInt8)) : sizes (s :: (rs ++ [p])) = sizes (s :: rs) + (p.length + 8) := by
  have := sizes_snoc (s :: rs) p
  exact this

set_option maxHeartbeats 16000000 in
theorem plays02 (n : Int) (v : Value) (len : Nat) (w : World) (hn : 0 ≤ n ∧ n ≤ 255) (h : Elems w w.heap.size 5 (fun cs => ∃ c, IsAct2 w w.heap.size c cs) v len) :
    Calls Try.prog 15 #[.int .u8 n, v] w fun e w' => e = .returned (.bool true) ∧ Below w.heap.size w w' := by
  obtain ⟨a, cap, acts, rfl, hc1, hc2, hal, hact⟩ := acts2_list h
  have hlen : len ≤ 9223372036854775807 := by omega
  have HAL := Lib.hid hal; have HACT := Lib.hid hact; clear hal hact h
  obtain ⟨hn0, hn1⟩ := hn
  obtain ⟨r, hr, hr0, hr1⟩ : ∃ r, n % 30 = r ∧ 0 ≤ r ∧ r < 30 := ⟨_, rfl, by omega, by omega⟩
  obtain ⟨h, hh⟩ : ∃ h : Nat, 2 * (h : Int) = 4 + 2 * r := ⟨(2 + r).toNat, by omega⟩
  have hh2 : 2 ≤ h ∧ h ≤ 31 := by omega
  have HR := Lib.hid hr; have HH := Lib.hid hh; have HH2 := Lib.hid hh2
  clear hr hh
  go_enter Try.func15, Try.ntmps15
  go_wp2_with fail
  refine (awake02 w).mono ?_
  rintro e w1 ⟨rfl, o1⟩
  have hop := lu_lawopen w h w1 o1 (by omega)
  have HOP := Lib.hid hop; clear hop o1
  go_upto_region 4 with (fail)
  have en : 4 + 2 * (n % 30) = ((2 * h : Nat) : Int) := by have := HH.out; have := HR.out; omega
  rw [en]
  obtain ⟨nn, hnn⟩ : ∃ nn, 2 * h = nn := ⟨_, rfl⟩
  rw [hnn] at HOP ⊢
  have hnb : 4 ≤ nn ∧ nn ≤ 62 := by omega
  obtain ⟨hnb1, hnb2⟩ := hnb
  have hnb3 : (nn : Int) ≤ 62 := by omega
  have hnb4 : (4 : Int) ≤ (nn : Int) := by omega
  have HNN := Lib.hid hnn
  clear en hnn hr0 hr1
  go_wp2_with fail
  refine HOP.out.mono ?_
  rintro e w2 ⟨d, l0, rfl, hs, o2⟩
  obtain ⟨R, hR⟩ : ∃ R, (h - 1) * 64 = R := ⟨_, rfl⟩
  have hRb : 64 ≤ R ∧ R ≤ 1920 := by omega
  have HRR := Lib.hid hR; have HRB := Lib.hid hRb; have HS := Lib.hid hs
  clear hs o2 hR hRb
  go_upto_region 6 with (fail)
  have er : 64 * ((nn : Int) / 2 - 1) = (R : Int) := by have := HRR.out; have := HNN.out; omega
  rw [er]
  clear er hnb1 hnb2 hnb3 hnb4
  obtain ⟨b9, hb9⟩ : ∃ b9, b9 = w2.heap.size := ⟨_, rfl⟩
  have hg := HS.out.grow ((Only.refl (fun _ => False) w2).alloc (.cells #[.string ⟨#[]⟩, .slice none 0 0] 68))
  have hg2 := hg.less (U' := fun k => k = b9) (fun k hk => .inr (by subst hk; rw [hb9]; exact ⟨Nat.le_refl _, by simp⟩))
  have hkb : KB (w2.alloc (.cells #[.string ⟨#[]⟩, .slice none 0 0] 68)) (fun k => k = b9) b9 [] [] := ⟨none, 0, by rw [hb9]; exact heap_new _ _, rfl, Nat.le_refl _, Nat.zero_le _, fun h => absurd h (by simp)⟩
  have HG := Lib.hid hg2; have HKB := Lib.hid hkb; have HB9 := Lib.hid hb9
  clear hg hg2 hkb
  go_upto_block 0 with (fail)
  rw [← hb9]
  clear hb9
  go_wp2_with fail
  go_loopw [7, 10] (fun v7 v10 wr => ∃ (i l : Nat) (s : List UInt8) (rs : List (List UInt8)) (U : Nat → Prop), v7 = .pointer (some ⟨l, 0, none⟩) ∧ v10 = .int .i64 (i : Int) ∧ i ≤ 50 ∧ i ≤ len ∧ rs.length ≤ i ∧ Hid (LU w U wr d l (33 + 100 * i) 1 h (nn + 1) (s :: rs)) ∧ Hid (KB wr U b9 s rs)) (fun _ v _ => 50 - (intOf v).toNat)
  case atStart => exact ⟨0, l0, [], [], _, rfl, by simp, by omega, by omega, by simp, Lib.hid (HG.out.more (n := 33 + 100 * 0) (by have := HH2.out; omega) (by decide)), HKB⟩
  case round =>
    obtain ⟨i, l, s, rs, U, rfl, rfl, hi50, hil, hri, HL, HK⟩ := hrel
    by_cases hlt : i < len ∧ i < 50
    · obtain ⟨hl1, hl2⟩ := hlt
      have t1 : decide ((i : Int) < (len : Int)) = true := by simp; omega
      have t2 : decide ((i : Int) < 50) = true := by simp; omega
      obtain ⟨bs, off, vp, rfl, hbs, k0, k1, k2, k3, k4, hold, kb, nb, kkb, tb⟩ := HACT.out i (by rw [HAL.out]; exact hl1)
      generalize (acts[i]'(by rw [HAL.out]; exact hl1)).kind = K at *
      generalize (acts[i]'(by rw [HAL.out]; exact hl1)).p = p at *
      generalize (acts[i]'(by rw [HAL.out]; exact hl1)).n = NN at *
      generalize (acts[i]'(by rw [HAL.out]; exact hl1)).k = KK at *
      generalize (acts[i]'(by rw [HAL.out]; exact hl1)).t = TN at *
      have hW := HL.out.old
      have g0 : wr.cell? ⟨bs, off + i * 5, none⟩ = some (.int .u8 K) := by rw [cell_only hW (a := ⟨bs, _, none⟩) hbs (fun h => h)]; exact k0
      have g1 : wr.cell? ⟨bs, off + i * 5 + 1, none⟩ = some vp := by rw [cell_only hW (a := ⟨bs, _, none⟩) hbs (fun h => h), Nat.add_assoc]; exact k1
      have g2 : wr.cell? ⟨bs, off + i * 5 + 2, none⟩ = some (.int .u8 NN) := by rw [cell_only hW (a := ⟨bs, _, none⟩) hbs (fun h => h), Nat.add_assoc]; exact k2
      have g3 : wr.cell? ⟨bs, off + i * 5 + 3, none⟩ = some (.int .i64 KK) := by rw [cell_only hW (a := ⟨bs, _, none⟩) hbs (fun h => h), Nat.add_assoc]; exact k3
      have g4 : wr.cell? ⟨bs, off + i * 5 + 4, none⟩ = some (.int .i64 TN) := by rw [cell_only hW (a := ⟨bs, _, none⟩) hbs (fun h => h), Nat.add_assoc]; exact k4
      have ii0 : (0 : Int) ≤ (i : Int) := by omega
      have ii1 : (i : Int) < (len : Int) := by omega
      obtain ⟨ap, cp, rfl, hb1, hb2, hb3⟩ := hold.1
      have HOLD := Lib.hid hold.1; have HKI := Lib.hid kb
      clear hold kb nb kkb tb k0 k1 k2 k3 k4 hW hb3
      have hpl : (p.length : Int) ≤ 9223372036854775807 := by omega
      clear hb1 hb2
      go_upto_region 11 with (fail)
      obtain ⟨ba, hba⟩ : ∃ ba, ba = wr.heap.size := ⟨_, rfl⟩
      have oal := (Only.refl (fun _ => False) wr).alloc (.cells #[.int .u8 K, .slice ap p.length cp, .int .u8 NN, .int .i64 KK, .int .i64 TN] 65)
      obtain ⟨U5, hU5⟩ : ∃ U5 : Nat → Prop, U5 = fun k => U k ∨ (wr.heap.size ≤ k ∧ k < (wr.alloc (.cells #[.int .u8 K, .slice ap p.length cp, .int .u8 NN, .int .i64 KK, .int .i64 TN] 65)).heap.size) := ⟨_, rfl⟩
      have hs5 := HL.out.grow oal
      rw [← hU5] at hs5
      have hk5 : KB (wr.alloc (.cells #[.int .u8 K, .slice ap p.length cp, .int .u8 NN, .int .i64 KK, .int .i64 TN] 65)) U5 b9 s rs := (HK.out.only oal (fun _ _ h => h)).mono (fun k hk => by rw [hU5]; exact .inl hk)
      have hA5 : ActAt (wr.alloc (.cells #[.int .u8 K, .slice ap p.length cp, .int .u8 NN, .int .i64 KK, .int .i64 TN] 65)) U5 b9 ba s rs (.int .u8 K) (.slice ap p.length cp) (.int .u8 NN) (.int .i64 KK) (.int .i64 TN) :=
        ⟨hk5, by rw [hU5, hba]; exact .inr ⟨Nat.le_refl _, by simp⟩, by obtain ⟨_, _, q, _⟩ := HK.out; have := (Array.getElem?_eq_some_iff.1 q).1; omega, by rw [hba]; exact heap_new _ _⟩
      rw [← hba]
      generalize wr.alloc (.cells #[.int .u8 K, .slice ap p.length cp, .int .u8 NN, .int .i64 KK, .int .i64 TN] 65) = wa at *
      have HA5 := Lib.hid hA5; have HS5 := Lib.hid hs5
      obtain ⟨f0, f1, f3, f4⟩ := hA5.cells
      clear hA5 hs5 hk5 hU5 oal hba g0 g1 g2 g3 g4 HL HK
      by_cases h5 : 5000 < p.length
      · have t3 : decide ((5000 : Int) < (p.length : Int)) = true := by simp; omega
        go_wp2_with fail
        go_ret
        exact ⟨rfl, HS5.out.old.still⟩
      have t3 : decide ((5000 : Int) < (p.length : Int)) = false := by simp; omega
      have hpn : (p.length : Int) ≤ 5000 := by omega
      have hkb1 := HKI.out.1
      have hkb2 := HKI.out.2
      go_upto_block 2 with (fail)
      go_cut [7] from 52 to 145 (fun v w' => ∃ (l' : Nat) (s' : List UInt8) (rs' : List (List UInt8)) (U' : Nat → Prop), v = .pointer (some ⟨l', 0, none⟩) ∧ rs'.length ≤ i + 1 ∧ Hid (LU w U' w' d l' (33 + 100 * (i + 1)) 1 h (nn + 1) (s' :: rs')) ∧ Hid (KB w' U' b9 s' rs'))
      case first =>
        clear t1 t2 t3
        by_cases hk : K % 8 < 5
        · have t1 : decide (K % 8 < 5) = true := by simp; omega
          clear hk
          have hs5 := HS5.out
          have hfit := hs5.fits.1
          rw [HRR.out] at hfit
          have hap := lu_append w U5 d l _ 1 h _ (s :: rs) _ p wa hs5 (HOLD.out.still hs5.old) (by omega) (by omega)
          rw [HRR.out] at hap
          obtain ⟨S, hS⟩ : ∃ S, sizes (s :: rs) = S := ⟨_, rfl⟩
          rw [hS] at hfit
          obtain ⟨rs9, hrs9⟩ : ∃ rs9, rs ++ [p] = rs9 := ⟨_, rfl⟩
          have hnl : rs9.length = rs.length + 1 := by rw [← hrs9]; simp
          have hsz9 : sizes (s :: rs9) = S + (p.length + 8) := by rw [← hrs9, sizes_put, hS]
          have hcs : 4000 < p.length ∨ (p.length ≤ 4000 ∧ R < S + (p.length + 8)) ∨ (p.length ≤ 4000 ∧ S + (p.length + 8) ≤ R) := by omega
          have HNL := Lib.hid hnl; have HSS := Lib.hid hS; have HRS9 := Lib.hid hrs9; have HFIT := Lib.hid hfit
          have hRb2 := HRB.out.2
          obtain ⟨S9, hS9⟩ : ∃ S9, sizes (s :: rs9) = S9 := ⟨_, rfl⟩
          have hS9' : S9 = S + (p.length + 8) := by rw [← hS9]; exact hsz9
          have HS9 := Lib.hid hS9; have HS9' := Lib.hid hS9'
          have hcode : (acode R (s :: rs) p = 2 ∧ afs R (s :: rs) p = s :: rs ∧ 4000 < p.length) ∨ (acode R (s :: rs) p = 13 ∧ afs R (s :: rs) p = s :: rs ∧ p.length ≤ 4000 ∧ R < S9) ∨ (acode R (s :: rs) p = 0 ∧ afs R (s :: rs) p = s :: rs9 ∧ p.length ≤ 4000 ∧ S9 ≤ R) := by
            rcases hcs with hc | ⟨hc, hcr⟩ | ⟨hc, hcr⟩
            · have ea : acode R (s :: rs) p = 2 := if_pos hc
              exact .inl ⟨ea, by unfold afs; rw [ea, if_neg (by decide)], hc⟩
            · have ea : acode R (s :: rs) p = 13 := by unfold acode; rw [if_neg (by omega), hS, if_pos hcr]
              exact .inr (.inl ⟨ea, by unfold afs; rw [ea, if_neg (by decide)], hc, by omega⟩)
            · have ea : acode R (s :: rs) p = 0 := by unfold acode; rw [if_neg (by omega), hS, if_neg (by omega)]
              exact .inr (.inr ⟨ea, by unfold afs; rw [ea, if_pos rfl]; show s :: (rs ++ [p]) = _; rw [hrs9], hc, by omega⟩)
          clear hnl hS hrs9 hfit hsz9 hcs hs5 hS9 hS9'
          rcases hcode with ⟨ea, ef, hc⟩ | ⟨ea, ef, hc, hcr⟩ | ⟨ea, ef, hc, hcr⟩
          all_goals
            rw [ea, ef] at hap
            have HAP := Lib.hid hap
            clear hap ea ef
            go_wp2_with fail
            refine HAP.out.mono ?_
            rintro e w6 ⟨rfl, hs6, o6⟩
            have hA6 := HA5.out.only o6 (fun k hk hs => hs.2 hk)
            obtain ⟨aK, cK, y0, y1, yz, hkv⟩ := hA6.1.val
            have hwi := with_any _ _ _ s p rs w6 hkv (HOLD.out.still hs6.old) (by omega)
            rw [HRS9.out] at hwi
            clear f0 f1 f3 f4
            obtain ⟨x0, x1, x3, x4⟩ := hA6.cells
            have HA6 := Lib.hid hA6; have HS6 := Lib.hid hs6; have HWI := Lib.hid hwi
            clear hkv hA6 hs6 o6 hwi
            go_wp2_with fail
            refine HWI.out.mono ?_
            rintro e w7 ⟨v7, rfl, hkv7, o7⟩
            obtain ⟨a7, c7, rfl, U7, hU57, hU7n, hn9, hl7, hk7, hkv8, hkm⟩ := kb_new HS6.out HA6.out.1 hkv7 o7
            have hA8 := (HA6.out.only (o7.trans ((Only.refl (fun _ => False) w7).alloc (.cells #[strR s, .slice a7 rs9.length c7] 68))) (fun _ _ h => h)).mono hU57
            obtain ⟨bm, hbm⟩ : ∃ bm, bm = w7.heap.size := ⟨_, rfl⟩
            rw [← hbm] at hkm hn9
            have HA8 := Lib.hid hA8; have HL7 := Lib.hid hl7; have HKV8 := Lib.hid hkv8; have HKM := Lib.hid hkm
            clear hkv7 o7 hU57 hU7n hl7 hk7 hkv8 hkm hA8 x0 x1 x3 x4 y0 y1 yz
            rw [show strR s = .string ⟨s.toArray⟩ from rfl] at *
            go_upto_block 3 with (fail)
            rw [← hbm]
            have hbk : (w7.alloc (.cells #[.string ⟨s.toArray⟩, .slice a7 rs9.length c7] 68)).heap[bm]? = some (.cells #[.string ⟨s.toArray⟩, .slice a7 rs9.length c7] 68 (0, 0)) := by rw [hbm]; exact heap_new _ _
            clear hbm
            generalize w7.alloc (.cells #[.string ⟨s.toArray⟩, .slice a7 rs9.length c7] 68) = wm at *
            obtain ⟨x0, x1, x3, x4⟩ := HA8.out.cells
            have HBK := Lib.hid hbk; clear hbk
          · have t4 : decide ((4000 : Int) < (p.length : Int)) = true := by simp; omega
            go_wp2_with fail
            go_meet
            case rel => exact ⟨l, s, rs, U7, rfl, by omega, Lib.hid (HL7.out.more (by omega) (by omega)), Lib.hid HA8.out.1⟩
          · have t4 : decide ((4000 : Int) < (p.length : Int)) = false := by simp; omega
            have t5 : decide ((R : Int) < (S9 : Int)) = true := by simp; omega
            obtain ⟨z0, z1, zz, _⟩ := cell2 HBK.out
            have hnd := need_k _ _ s rs9 wm HKV8.out (by rw [HS9.out]; have := HS9'.out; have := HFIT.out; omega)
            rw [HS9.out] at hnd
            have HND := Lib.hid hnd; clear hnd
            go_wp2_with fail
            refine HND.out.mono ?_
            rintro e w8 ⟨rfl, o8⟩
            have HL8 := Lib.hid (HL7.out.still o8); have HK8 := Lib.hid (HA8.out.1.only o8 (fun _ _ h => h))
            clear x0 x1 x3 x4 z0 z1 zz o8
            go_wp2_with fail
            go_meet
            case rel => exact ⟨l, s, rs, U7, rfl, by omega, Lib.hid (HL8.out.more (by omega) (by omega)), HK8⟩
          · have t4 : decide ((4000 : Int) < (p.length : Int)) = false := by simp; omega
            have t5 : decide ((R : Int) < (S9 : Int)) = false := by simp; omega
            obtain ⟨z0, z1, zz, _⟩ := cell2 HBK.out
            have hnd := need_k _ _ s rs9 wm HKV8.out (by rw [HS9.out]; have := HS9'.out; have := HFIT.out; omega)
            rw [HS9.out] at hnd
            have HND := Lib.hid hnd; clear hnd
            go_wp2_with fail
            refine HND.out.mono ?_
            rintro e w8 ⟨rfl, o8⟩
            have hl8 := HL7.out.still o8
            have hk8 := HA8.out.1.only o8 (fun _ _ h => h)
            have hkv8 := HKV8.out.only o8 (fun _ _ h => h)
            have hkm8 := HKM.out.only o8 (fun _ _ h => h)
            obtain ⟨hl9, hk9⟩ := kb_store hl8 hk8 (by rw [HB9.out]; exact HS.out.old.size) hkv8
            have HL9 := Lib.hid hl9; have HK9 := Lib.hid hk9
            clear x0 x1 x3 x4 z0 z1 zz
            have hbk : w8.heap[bm]? = some (.cells #[.string ⟨s.toArray⟩, .slice a7 rs9.length c7] 68 (0, 0)) := by rw [o8.block bm (Array.getElem?_eq_some_iff.1 HBK.out).1 (fun h => h)]; exact HBK.out
            obtain ⟨z0, z1, zz, _⟩ := cell2 hbk
            obtain ⟨aN, cN, v0, v1, vz, _⟩ := hk8.val
            clear hl8 hk8 hkv8 hkm8 hl9 hk9 hbk o8
            go_wp2_with fail
            go_meet
            case rel => exact ⟨l, s, rs9, U7, rfl, by have := HNL.out; omega, Lib.hid (HL9.out.more (by omega) (by omega)), HK9⟩
        · have t1 : decide (K % 8 < 5) = false := by simp; omega
          by_cases hk5 : K % 8 = 5
          · have t2 : ((K % 8) == 5) = true := by simp; omega
            clear hk hk5
            have hs5 := HS5.out
            have hsn := lu_snap w U5 d l _ 1 h _ (s :: rs) _ p wa hs5 (HOLD.out.still hs5.old) (by omega) (by omega)
            rw [HRR.out] at hsn
            have hsz : sizes [p] = p.length + 8 := by simp [sizes]
            obtain ⟨q8, hq8⟩ : ∃ q8, p.length + 8 = q8 := ⟨_, rfl⟩
            rw [hq8] at hsn hsz
            have hqb : q8 ≤ 5008 := by omega
            have HSZ := Lib.hid hsz
            have hh31 := HH2.out.2
            have hcode : (R < q8 ∧ (if R < q8 then (13 : Int) else 0) = 13 ∧ (if R < q8 then (s :: rs) else [p]) = s :: rs) ∨ (q8 ≤ R ∧ (if R < q8 then (13 : Int) else 0) = 0 ∧ (if R < q8 then (s :: rs) else [p]) = [p]) := by
              by_cases hcr : R < q8
              · exact .inl ⟨hcr, if_pos hcr, if_pos hcr⟩
              · exact .inr ⟨by omega, if_neg hcr, if_neg hcr⟩
            have hRb2 := HRB.out.2
            clear hsz hq8 hs5
            rcases hcode with ⟨hcr, ea, ef⟩ | ⟨hcr, ea, ef⟩
            all_goals
              rw [ea, ef] at hsn
              have HSN := Lib.hid hsn
              clear hsn ea ef
              go_wp2_with fail
              refine HSN.out.mono ?_
              rintro e w6 ⟨rfl, hs6, o6⟩
              have hA6 := HA5.out.only o6 (fun k hk hs => hs.2 hk)
              have hcv := (HOLD.out.still hs6.old).conv
              have hkv : KeptV w6 (fun q => w6.heap.size ≤ q) (.agg #[strR p, .slice none ([] : List (List UInt8)).length 0]) p [] := ⟨none, 0, rfl, Nat.le_refl _, Nat.zero_le _, fun h => absurd h (by simp)⟩
              obtain ⟨a7, c7, e7, U7, hU57, hU7n, hn9, hl7, hk7, hkv8, hkm⟩ := kb_new hs6 hA6.1 hkv (Only.refl _ _)
              obtain ⟨rfl, rfl⟩ : a7 = none ∧ c7 = 0 := by simp at e7; exact ⟨e7.1.symm, e7.2.symm⟩
              clear f0 f1 f3 f4 e7 hkv
              rw [show strR p = .string ⟨p.toArray⟩ from rfl, show ([] : List (List UInt8)).length = 0 from rfl] at *
              have hA8 := (hA6.only ((Only.refl (fun _ => False) w6).alloc (.cells #[.string ⟨p.toArray⟩, .slice none 0 0] 68)) (fun _ _ h => h)).mono hU57
              obtain ⟨x0, x1, x3, x4⟩ := hA6.cells
              obtain ⟨bm, hbm⟩ : ∃ bm, bm = w6.heap.size := ⟨_, rfl⟩
              rw [← hbm] at hkm hn9
              have HA8 := Lib.hid hA8; have HL7 := Lib.hid hl7; have HKV8 := Lib.hid hkv8; have HKM := Lib.hid hkm
              clear hU57 hU7n hl7 hk7 hkv8 hkm hA8 hA6 hs6 o6
              go_upto_region 34 with (fail)
              rw [← hbm]
              have hbk : (w6.alloc (.cells #[.string ⟨p.toArray⟩, .slice none 0 0] 68)).heap[bm]? = some (.cells #[.string ⟨p.toArray⟩, .slice none 0 0] 68 (0, 0)) := by rw [hbm]; exact heap_new _ _
              clear hbm hcv
              generalize w6.alloc (.cells #[.string ⟨p.toArray⟩, .slice none 0 0] 68) = wm at *
              clear x0 x1 x3 x4
              obtain ⟨z0, z1, zz, _⟩ := cell2 hbk
              have HBK := Lib.hid hbk; clear hbk
              have hnd := need_k _ _ p [] wm HKV8.out (by rw [HSZ.out]; omega)
              rw [HSZ.out] at hnd
              have HND := Lib.hid hnd; clear hnd
            · have t5 : decide ((q8 : Int) ≤ (R : Int)) = false := by simp; omega
              go_wp2_with fail
              refine HND.out.mono ?_
              rintro e w8 ⟨rfl, o8⟩
              have HL8 := Lib.hid (HL7.out.still o8); have HK8 := Lib.hid (HA8.out.1.only o8 (fun _ _ h => h))
              clear z0 z1 zz o8
              go_wp2_with fail
              go_meet
              case rel => exact ⟨l, s, rs, U7, rfl, by omega, Lib.hid (HL8.out.more (by omega) (by omega)), HK8⟩
            · have t5 : decide ((q8 : Int) ≤ (R : Int)) = true := by simp; omega
              go_wp2_with fail
              refine HND.out.mono ?_
              rintro e w8 ⟨rfl, o8⟩
              have hl8 := HL7.out.still o8
              have hk8 := HA8.out.1.only o8 (fun _ _ h => h)
              have hkv8 := HKV8.out.only o8 (fun _ _ h => h)
              have hkm8 := HKM.out.only o8 (fun _ _ h => h)
              obtain ⟨hl9, hk9⟩ := kb_store (rs' := []) hl8 hk8 (by rw [HB9.out]; exact HS.out.old.size) hkv8
              have HL9 := Lib.hid hl9; have HK9 := Lib.hid hk9
              clear z0 z1 zz
              have hbk : w8.heap[bm]? = some (.cells #[.string ⟨p.toArray⟩, .slice none 0 0] 68 (0, 0)) := by rw [o8.block bm (Array.getElem?_eq_some_iff.1 HBK.out).1 (fun h => h)]; exact HBK.out
              obtain ⟨z0, z1, zz, _⟩ := cell2 hbk
              obtain ⟨aN, cN, v0, v1, vz, _⟩ := hk8.val
              clear hl8 hk8 hkv8 hkm8 hl9 hk9 hbk o8
              go_wp2_with fail
              go_meet
              case rel => exact ⟨l, p, [], U7, rfl, by simp, Lib.hid (HL9.out.more (by omega) (by omega)), HK9⟩
          · have t2 : ((K % 8) == 5) = false := by simp; omega
            clear hk hk5
            have hfit := HS5.out.fits.1
            rw [HRR.out] at hfit
            have hRb2 := HRB.out.2
            have hh31 := HH2.out.2
            have hsl : s.length ≤ 1000000 := by simp only [sizes] at hfit; omega
            have hrl : rs.length ≤ 1000000 := by omega
            clear hfit
            obtain ⟨b7, hb7⟩ : ∃ b7, ((K % 8) == 7) = b7 := ⟨_, rfl⟩
            go_upto_if 59 with (fail)
            clear hb7 t2 t1
            go_cut [] from 60 to 65 (fun w' => Hid (LU w U5 w' d l (33 + 100 * i) 1 h (nn + 1) (s :: rs)) ∧ Hid (ActAt w' U5 b9 ba s rs (.int .u8 K) (.slice ap p.length cp) (.int .u8 NN) (.int .i64 KK) (.int .i64 TN)))
            case first =>
              cases b7 with
              | true =>
                have hrs := lu_restart w U5 d l _ 1 h _ (s :: rs) KK TN wa HS5.out
                have HRS := Lib.hid hrs; clear hrs
                go_wp2_with fail
                refine HRS.out.mono ?_
                rintro e w6 ⟨rfl, hs6, o6⟩
                have HS6 := Lib.hid hs6; have HA6 := Lib.hid (HA5.out.only o6 (fun k hk hs => hs.2 hk))
                clear f0 f1 f3 f4 hs6 o6
                go_wp2_with fail
                go_meet
                case rel => exact ⟨HS6, HA6⟩
              | false =>
                go_wp2_with fail
                go_meet
                case rel => exact ⟨HS5, HA5⟩
            case rest =>
              obtain ⟨HL6, HA6⟩ := hcut
              obtain ⟨wq, rfl⟩ : ∃ wq, wq = wc := ⟨wc, rfl⟩
              clear f0 f1 f3 f4
              have hop := lu_open w U5 d l _ 1 h _ s rs wq HL6.out (by omega)
              rw [HNN.out, show ((1 : Nat) : Int) = 1 from rfl] at hop
              have HOP9 := Lib.hid hop; clear hop
              go_wp2_with fail
              refine HOP9.out.mono ?_
              rintro e w4 ⟨l9, sv, av, rfl, hs4, hrec, _, o4⟩
              have hk4 := HA6.out.1.only o4 (fun k hk hs => hs.2 hk)
              obtain ⟨aK, cK, y0, y1, yz, hkv⟩ := hk4.val
              have hfa : ∀ w', Only (fun _ => False) w4 w' → w'.cell? ⟨b9, 0, none⟩ = some (.string ⟨s.toArray⟩) ∧ w'.cell? ⟨b9, 1, none⟩ = some (.slice aK rs.length cK) ∧ KeptV w' U5 (.agg #[.string ⟨s.toArray⟩, .slice aK rs.length cK]) s rs ∧ Recs w' (fun k => wq.heap.size ≤ k) sv av s rs := fun w' o => by
                have hb := cell_lt y0
                exact ⟨by rw [cell_only o (a := ⟨b9, 0, none⟩) hb (fun h => h)]; exact y0, by rw [cell_only o (a := ⟨b9, 1, none⟩) hb (fun h => h)]; exact y1, hkv.still o, hrec.only o (fun _ _ h => h)⟩
              have HFA := Lib.hid hfa; have HS4 := Lib.hid hs4; have HK4 := Lib.hid hk4
              clear hfa hs4 hrec hk4 y0 y1 yz hkv o4
              go_wp2_with fail
              refine wp_region_steps 9 (by kernel_rfl) rfl (by kernel_rfl) [some 74, some 75, some 76, some 77, some 78, some 79, some 80, some 81, some 82] rfl rfl (fun _ => False) [(fun v _ => v = (.int .i64 0)), (fun v _ => v = (.bool false)), (fun v _ => v = (.bool false)), (fun v _ => v = sv), (fun v _ => v = av), (fun v w1 => KeptV w1 (fun _ => True) v s rs), (fun v _ => v = (.agg #[.string ⟨s.toArray⟩, .slice aK rs.length cK])), (fun v _ => v = (.bool true)), (fun v _ => v = (.bool false))] rfl ⟨?_, ?_, ?_, ?_, ?_, ?_, ?_, ?_, ?_, trivial⟩ _ rfl ⟨?_, ?_, ?_, ?_, ?_, ?_, ?_, ?_, ?_, trivial⟩ ?_
              · exact Stable.is _ _
              · exact Stable.is _ _
              · exact Stable.is _ _
              · exact Stable.is _ _
              · exact Stable.is _ _
              · exact fun v w1 w2 h ho => h.still ho
              · exact Stable.is _ _
              · exact Stable.is _ _
              · exact Stable.is _ _
              · intro x wx ox hN TT HTT
                clear hN
                unfold StepTo
                simp only [putAll, Act.put, List.setIfInBounds_toArray, List.set_cons_succ, List.set_cons_zero]
                go_wp2_with fail
                exact ⟨rfl, _, rfl, HTT.out _ _ (rfl) (Only.refl _ _)⟩
              · intro x wx ox hN TT HTT
                have r74 : x 0 = (.int .i64 0) := hN.1 rfl
                clear hN
                unfold StepTo
                simp only [putAll, Act.put, List.setIfInBounds_toArray, List.set_cons_succ, List.set_cons_zero, r74]
                clear r74
                go_wp2_with fail
                exact ⟨rfl, _, rfl, HTT.out _ _ (rfl) (Only.refl _ _)⟩
              · intro x wx ox hN TT HTT
                have r75 : x 1 = (.bool false) := hN.1 rfl
                clear hN
                unfold StepTo
                simp only [putAll, Act.put, List.setIfInBounds_toArray, List.set_cons_succ, List.set_cons_zero, r75]
                clear r75
                go_wp2_with fail
                exact ⟨rfl, _, rfl, HTT.out _ _ (rfl) (Only.refl _ _)⟩
              · intro x wx ox hN TT HTT
                have r76 : x 2 = (.bool false) := hN.1 rfl
                clear hN
                unfold StepTo
                simp only [putAll, Act.put, List.setIfInBounds_toArray, List.set_cons_succ, List.set_cons_zero, r76]
                clear r76
                go_wp2_with fail
                exact ⟨rfl, _, rfl, HTT.out _ _ (rfl) (Only.refl _ _)⟩
              · intro x wx ox hN TT HTT
                have r76 : x 2 = (.bool false) := hN.1 rfl
                clear hN
                unfold StepTo
                simp only [putAll, Act.put, List.setIfInBounds_toArray, List.set_cons_succ, List.set_cons_zero, r76]
                clear r76
                go_wp2_with fail
                exact ⟨rfl, _, rfl, HTT.out _ _ (rfl) (Only.refl _ _)⟩
              · intro x wx ox hN TT HTT
                have r77 : x 3 = sv := hN.1 rfl
                have r78 : x 4 = av := hN.2.1 rfl
                have r76 : x 2 = (.bool false) := hN.2.2.1 rfl
                clear hN
                unfold StepTo
                simp only [putAll, Act.put, List.setIfInBounds_toArray, List.set_cons_succ, List.set_cons_zero, r77, r78, r76]
                clear r77 r78 r76
                have hc := of_any _ sv av s rs wx (HFA.out wx (((Only.refl _ w4).drew).trans ox)).2.2.2 hrl hsl
                have HC := Lib.hid hc; clear hc
                go_wp2_with fail
                refine HC.out.mono ?_
                rintro e w6 ⟨v6, rfl, h6, o6⟩
                have H6 := Lib.hid h6; have O6 := Lib.hid o6; clear h6 o6
                go_wp2_with fail
                exact ⟨rfl, _, rfl, HTT.out _ _ (H6.out.weaken (fun _ _ _ => trivial)) (O6.out)⟩
              · intro x wx ox hN TT HTT
                have r76 : x 2 = (.bool false) := hN.1 rfl
                clear hN
                unfold StepTo
                simp only [putAll, Act.put, List.setIfInBounds_toArray, List.set_cons_succ, List.set_cons_zero, r76]
                clear r76
                obtain ⟨g0, g1, g2, g3⟩ := HFA.out wx (((Only.refl _ w4).drew).trans ox)
                clear g2 g3
                go_wp2_with fail
                exact ⟨rfl, _, rfl, HTT.out _ _ (rfl) (Only.refl _ _)⟩
              · intro x wx ox hN TT HTT
                have r79 : (fun (v : Value) (w1 : World) => KeptV w1 (fun _ => True) v s rs) (x 5) wx := hN.1 rfl
                have r80 : x 6 = (.agg #[.string ⟨s.toArray⟩, .slice aK rs.length cK]) := hN.2.1 rfl
                have r76 : x 2 = (.bool false) := hN.2.2.2.1 rfl
                clear hN
                unfold StepTo
                simp only [putAll, Act.put, List.setIfInBounds_toArray, List.set_cons_succ, List.set_cons_zero, r80, r76]
                clear r80 r76
                have hc := same_true _ _ _ _ s rs wx r79 (HFA.out wx (((Only.refl _ w4).drew).trans ox)).2.2.1 (by omega)
                have HC := Lib.hid hc; clear hc
                go_wp2_with fail
                refine HC.out.mono ?_
                rintro e w6 ⟨rfl, o6⟩
                have O6 := Lib.hid o6; clear o6
                go_wp2_with fail
                exact ⟨rfl, _, rfl, HTT.out _ _ (rfl) (O6.out)⟩
              · intro x wx ox hN TT HTT
                have r81 : x 7 = (.bool true) := hN.1 rfl
                have r76 : x 2 = (.bool false) := hN.2.1 rfl
                clear hN
                unfold StepTo
                simp only [putAll, Act.put, List.setIfInBounds_toArray, List.set_cons_succ, List.set_cons_zero, r81, r76]
                clear r81 r76
                go_wp2_with fail
                exact ⟨rfl, _, rfl, HTT.out _ _ (rfl) (Only.refl _ _)⟩
              intro xa wxa oxa hN
              have r74 : xa 0 = (.int .i64 0) := hN.1
              have r75 : xa 1 = (.bool false) := hN.2.1
              have r76 : xa 2 = (.bool false) := hN.2.2.1
              have r77 : xa 3 = sv := hN.2.2.2.1
              have r78 : xa 4 = av := hN.2.2.2.2.1
              have r79 : (fun (v : Value) (w1 : World) => KeptV w1 (fun _ => True) v s rs) (xa 5) wxa := hN.2.2.2.2.2.1
              have r80 : xa 6 = (.agg #[.string ⟨s.toArray⟩, .slice aK rs.length cK]) := hN.2.2.2.2.2.2.1
              have r81 : xa 7 = (.bool true) := hN.2.2.2.2.2.2.2.1
              have r82 : xa 8 = (.bool false) := hN.2.2.2.2.2.2.2.2.1
              clear hN
              simp only [putAll, Act.put, List.setIfInBounds_toArray, List.set_cons_succ, List.set_cons_zero, r74, r75, r76, r77, r78, r80, r81, r82]
              clear r74 r75 r76 r77 r78 r80 r81 r82
              have hon := ((Only.refl (fun _ => False) w4).drew).trans oxa
              have HL9 := Lib.hid ((HS4.out.still hon).more (n := 33 + 100 * (i + 1)) (by omega) (by omega)); have HK9 := Lib.hid (HK4.out.only hon (fun _ _ h => h))
              clear hon oxa
              clear r79
              go_wp2_with fail
              go_meet
              case rel => exact ⟨l9, s, rs, U5, rfl, by omega, HL9, HK9⟩
      case rest =>
        obtain ⟨l', s', rs', U', rfl, hri', HL', HK'⟩ := hcut
        obtain ⟨wp, rfl⟩ : ∃ wp, wp = wc := ⟨wc, rfl⟩
        have hfit := HL'.out.fits.1
        rw [HRR.out] at hfit
        obtain ⟨S, hS⟩ : ∃ S, sizes (s' :: rs') = S := ⟨_, rfl⟩
        rw [hS] at hfit
        have HSS := Lib.hid hS; have HLN := Lib.hid (show (((s' :: rs').length : Nat) : Int) - 1 = (rs'.length : Int) by simp)
        have hRb1 := HRB.out.2
        have hSR : (S : Int) ≤ (R : Int) := by omega
        have hS0 : (0 : Int) ≤ (S : Int) := by omega
        have hR9 : (R : Int) ≤ 1920 := by omega
        clear hS hfit t1 t2 t3 hRb1
        obtain ⟨aK, cK, y0, y1, yz, hkv⟩ := HK'.out.val
        have hfa : ∀ w', Only (fun _ => False) wp w' → w'.cell? ⟨b9, 0, none⟩ = some (.string ⟨s'.toArray⟩) ∧ w'.cell? ⟨b9, 1, none⟩ = some (.slice aK rs'.length cK) ∧ KeptV w' U' (.agg #[.string ⟨s'.toArray⟩, .slice aK rs'.length cK]) s' rs' ∧ LU w U' w' d l' (33 + 100 * (i + 1)) 1 h (nn + 1) (s' :: rs') := fun w' o => by
          have hb := cell_lt y0
          exact ⟨by rw [cell_only o (a := ⟨b9, 0, none⟩) hb (fun h => h)]; exact y0, by rw [cell_only o (a := ⟨b9, 1, none⟩) hb (fun h => h)]; exact y1, hkv.still o, HL'.out.still o⟩
        have HFA := Lib.hid hfa
        clear hfa y0 y1 yz hkv
        go_wp2_with fail
        refine wp_region_steps 14 (by kernel_rfl) rfl (by kernel_rfl) [some 146, some 147, some 148, some 149, some 150, some 151, some 152, some 153, some 154, some 155, some 156, some 157, some 158, some 159] rfl rfl (fun _ => False) [(fun v _ => v = (.pointer (some ⟨l', 0, none⟩))), (fun v _ => v = (.int .i64 (rs'.length : Int))), (fun v _ => v = (.pointer (some ⟨b9, 1, none⟩))), (fun v _ => v = (.slice aK rs'.length cK)), (fun v _ => v = (.int .i64 (rs'.length : Int))), (fun v _ => v = (.bool false)), (fun v _ => v = (.bool false)), (fun v _ => v = (.pointer (some ⟨l', 0, none⟩))), (fun v _ => v = (.int .i64 ((R : Int) - (S : Int)))), (fun v _ => v = (.int .i64 (R : Int))), (fun v _ => v = (.agg #[.string ⟨s'.toArray⟩, .slice aK rs'.length cK])), (fun v _ => v = (.int .i64 (S : Int))), (fun v _ => v = (.int .i64 ((R : Int) - (S : Int)))), (fun v _ => v = (.bool false))] rfl ⟨?_, ?_, ?_, ?_, ?_, ?_, ?_, ?_, ?_, ?_, ?_, ?_, ?_, ?_, trivial⟩ _ rfl ⟨?_, ?_, ?_, ?_, ?_, ?_, ?_, ?_, ?_, ?_, ?_, ?_, ?_, ?_, trivial⟩ ?_
        · exact Stable.is _ _
        · exact Stable.is _ _
        · exact Stable.is _ _
        · exact Stable.is _ _
        · exact Stable.is _ _
        · exact Stable.is _ _
        · exact Stable.is _ _
        · exact Stable.is _ _
        · exact Stable.is _ _
        · exact Stable.is _ _
        · exact Stable.is _ _
        · exact Stable.is _ _
        · exact Stable.is _ _
        · exact Stable.is _ _
        · intro x wx ox hN TT HTT
          clear hN
          unfold StepTo
          simp only [putAll, Act.put, List.setIfInBounds_toArray, List.set_cons_succ, List.set_cons_zero]
          go_wp2_with fail
          exact ⟨rfl, _, rfl, HTT.out _ _ (rfl) (Only.refl _ _)⟩
        · intro x wx ox hN TT HTT
          have r146 : x 0 = (.pointer (some ⟨l', 0, none⟩)) := hN.1 rfl
          clear hN
          unfold StepTo
          simp only [putAll, Act.put, List.setIfInBounds_toArray, List.set_cons_succ, List.set_cons_zero, r146]
          clear r146
          have hc := lu_len _ _ _ _ _ _ _ _ _ wx (HFA.out wx (((Only.refl _ wp).drew).trans ox)).2.2.2
          rw [HLN.out] at hc
          have HC := Lib.hid hc; clear hc
          go_wp2_with fail
          refine HC.out.mono ?_
          rintro e w6 ⟨rfl, rfl⟩
          go_wp2_with fail
          exact ⟨rfl, _, rfl, HTT.out _ _ (rfl) (Only.refl _ _)⟩
        · intro x wx ox hN TT HTT
          clear hN
          unfold StepTo
          simp only [putAll, Act.put, List.setIfInBounds_toArray, List.set_cons_succ, List.set_cons_zero]
          go_wp2_with fail
          exact ⟨rfl, _, rfl, HTT.out _ _ (rfl) (Only.refl _ _)⟩
        · intro x wx ox hN TT HTT
          have r148 : x 2 = (.pointer (some ⟨b9, 1, none⟩)) := hN.1 rfl
          clear hN
          unfold StepTo
          simp only [putAll, Act.put, List.setIfInBounds_toArray, List.set_cons_succ, List.set_cons_zero, r148]
          clear r148
          obtain ⟨g0, g1, g2, g3⟩ := HFA.out wx (((Only.refl _ wp).drew).trans ox)
          clear g2 g3
          go_wp2_with fail
          exact ⟨rfl, _, rfl, HTT.out _ _ (rfl) (Only.refl _ _)⟩
        · intro x wx ox hN TT HTT
          have r149 : x 3 = (.slice aK rs'.length cK) := hN.1 rfl
          clear hN
          unfold StepTo
          simp only [putAll, Act.put, List.setIfInBounds_toArray, List.set_cons_succ, List.set_cons_zero, r149]
          clear r149
          go_wp2_with fail
          exact ⟨rfl, _, rfl, HTT.out _ _ (rfl) (Only.refl _ _)⟩
        · intro x wx ox hN TT HTT
          have r147 : x 1 = (.int .i64 (rs'.length : Int)) := hN.1 rfl
          have r150 : x 4 = (.int .i64 (rs'.length : Int)) := hN.2.1 rfl
          clear hN
          unfold StepTo
          simp only [putAll, Act.put, List.setIfInBounds_toArray, List.set_cons_succ, List.set_cons_zero, r147, r150]
          clear r147 r150
          go_wp2_with fail
          exact ⟨rfl, _, rfl, HTT.out _ _ (rfl) (Only.refl _ _)⟩
        · intro x wx ox hN TT HTT
          have r151 : x 5 = (.bool false) := hN.1 rfl
          have r147 : x 1 = (.int .i64 (rs'.length : Int)) := hN.2.1 rfl
          clear hN
          unfold StepTo
          simp only [putAll, Act.put, List.setIfInBounds_toArray, List.set_cons_succ, List.set_cons_zero, r151, r147]
          clear r151 r147
          go_wp2_with fail
          exact ⟨rfl, _, rfl, HTT.out _ _ (rfl) (Only.refl _ _)⟩
        · intro x wx ox hN TT HTT
          have r152 : x 6 = (.bool false) := hN.1 rfl
          clear hN
          unfold StepTo
          simp only [putAll, Act.put, List.setIfInBounds_toArray, List.set_cons_succ, List.set_cons_zero, r152]
          clear r152
          go_wp2_with fail
          exact ⟨rfl, _, rfl, HTT.out _ _ (rfl) (Only.refl _ _)⟩
        · intro x wx ox hN TT HTT
          have r153 : x 7 = (.pointer (some ⟨l', 0, none⟩)) := hN.1 rfl
          have r152 : x 6 = (.bool false) := hN.2.1 rfl
          clear hN
          unfold StepTo
          simp only [putAll, Act.put, List.setIfInBounds_toArray, List.set_cons_succ, List.set_cons_zero, r153, r152]
          clear r153 r152
          have hc := lu_left _ _ _ _ _ _ _ _ _ wx (HFA.out wx (((Only.refl _ wp).drew).trans ox)).2.2.2
          rw [HRR.out, HSS.out] at hc
          have HC := Lib.hid hc; clear hc
          go_wp2_with fail
          refine HC.out.mono ?_
          rintro e w6 ⟨rfl, n6, rfl⟩
          go_wp2_with fail
          exact ⟨rfl, _, rfl, HTT.out _ _ (rfl) ((Only.refl _ _).drewN n6)⟩
        · intro x wx ox hN TT HTT
          have r152 : x 6 = (.bool false) := hN.1 rfl
          clear hN
          unfold StepTo
          simp only [putAll, Act.put, List.setIfInBounds_toArray, List.set_cons_succ, List.set_cons_zero, r152]
          clear r152
          go_wp2_with fail
          exact ⟨rfl, _, rfl, HTT.out _ _ (rfl) (Only.refl _ _)⟩
        · intro x wx ox hN TT HTT
          have r152 : x 6 = (.bool false) := hN.1 rfl
          clear hN
          unfold StepTo
          simp only [putAll, Act.put, List.setIfInBounds_toArray, List.set_cons_succ, List.set_cons_zero, r152]
          clear r152
          obtain ⟨g0, g1, g2, g3⟩ := HFA.out wx (((Only.refl _ wp).drew).trans ox)
          clear g2 g3
          go_wp2_with fail
          exact ⟨rfl, _, rfl, HTT.out _ _ (rfl) (Only.refl _ _)⟩
        · intro x wx ox hN TT HTT
          have r156 : x 10 = (.agg #[.string ⟨s'.toArray⟩, .slice aK rs'.length cK]) := hN.1 rfl
          have r154 : x 8 = (.int .i64 ((R : Int) - (S : Int))) := hN.2.1 rfl
          have r152 : x 6 = (.bool false) := hN.2.2.1 rfl
          clear hN
          unfold StepTo
          simp only [putAll, Act.put, List.setIfInBounds_toArray, List.set_cons_succ, List.set_cons_zero, r156, r154, r152]
          clear r156 r154 r152
          have hc := need_k _ _ s' rs' wx (HFA.out wx (((Only.refl _ wp).drew).trans ox)).2.2.1 (by rw [HSS.out]; omega)
          rw [HSS.out] at hc
          have HC := Lib.hid hc; clear hc
          go_wp2_with fail
          refine HC.out.mono ?_
          rintro e w6 ⟨rfl, o6⟩
          have O6 := Lib.hid o6; clear o6
          go_wp2_with fail
          exact ⟨rfl, _, rfl, HTT.out _ _ (rfl) (O6.out)⟩
        · intro x wx ox hN TT HTT
          have r155 : x 9 = (.int .i64 (R : Int)) := hN.1 rfl
          have r157 : x 11 = (.int .i64 (S : Int)) := hN.2.1 rfl
          have r152 : x 6 = (.bool false) := hN.2.2.1 rfl
          clear hN
          unfold StepTo
          simp only [putAll, Act.put, List.setIfInBounds_toArray, List.set_cons_succ, List.set_cons_zero, r155, r157, r152]
          clear r155 r157 r152
          go_wp2_with fail
          exact ⟨rfl, _, rfl, HTT.out _ _ (rfl) (Only.refl _ _)⟩
        · intro x wx ox hN TT HTT
          have r154 : x 8 = (.int .i64 ((R : Int) - (S : Int))) := hN.1 rfl
          have r158 : x 12 = (.int .i64 ((R : Int) - (S : Int))) := hN.2.1 rfl
          have r152 : x 6 = (.bool false) := hN.2.2.1 rfl
          clear hN
          unfold StepTo
          simp only [putAll, Act.put, List.setIfInBounds_toArray, List.set_cons_succ, List.set_cons_zero, r154, r158, r152]
          clear r154 r158 r152
          go_wp2_with fail
          exact ⟨rfl, _, rfl, HTT.out _ _ (rfl) (Only.refl _ _)⟩
        intro xa wxa oxa hN
        have r146 : xa 0 = (.pointer (some ⟨l', 0, none⟩)) := hN.1
        have r147 : xa 1 = (.int .i64 (rs'.length : Int)) := hN.2.1
        have r148 : xa 2 = (.pointer (some ⟨b9, 1, none⟩)) := hN.2.2.1
        have r149 : xa 3 = (.slice aK rs'.length cK) := hN.2.2.2.1
        have r150 : xa 4 = (.int .i64 (rs'.length : Int)) := hN.2.2.2.2.1
        have r151 : xa 5 = (.bool false) := hN.2.2.2.2.2.1
        have r152 : xa 6 = (.bool false) := hN.2.2.2.2.2.2.1
        have r153 : xa 7 = (.pointer (some ⟨l', 0, none⟩)) := hN.2.2.2.2.2.2.2.1
        have r154 : xa 8 = (.int .i64 ((R : Int) - (S : Int))) := hN.2.2.2.2.2.2.2.2.1
        have r155 : xa 9 = (.int .i64 (R : Int)) := hN.2.2.2.2.2.2.2.2.2.1
        have r156 : xa 10 = (.agg #[.string ⟨s'.toArray⟩, .slice aK rs'.length cK]) := hN.2.2.2.2.2.2.2.2.2.2.1
        have r157 : xa 11 = (.int .i64 (S : Int)) := hN.2.2.2.2.2.2.2.2.2.2.2.1
        have r158 : xa 12 = (.int .i64 ((R : Int) - (S : Int))) := hN.2.2.2.2.2.2.2.2.2.2.2.2.1
        have r159 : xa 13 = (.bool false) := hN.2.2.2.2.2.2.2.2.2.2.2.2.2.1
        clear hN
        simp only [putAll, Act.put, List.setIfInBounds_toArray, List.set_cons_succ, List.set_cons_zero, r146, r147, r148, r149, r150, r151, r152, r153, r154, r155, r156, r157, r158, r159]
        clear r146 r147 r148 r149 r150 r151 r152 r153 r154 r155 r156 r157 r158 r159
        have hon := ((Only.refl (fun _ => False) wp).drew).trans oxa
        have HLZ := Lib.hid (HL'.out.still hon); have HKZ := Lib.hid (HK'.out.only hon (fun _ _ h => h))
        clear hon oxa
        go_wp2_with fail
        go_roundw
        case rel => exact ⟨i + 1, l', s', rs', U', rfl, by simp [go_sem], by omega, by omega, hri', HLZ, HKZ⟩
        case measure => simp [intOf]; omega
    · by_cases hl1 : i < len
      · have t1 : decide ((i : Int) < (len : Int)) = true := by simp; omega
        have t2 : decide ((i : Int) < 50) = false := by simp; omega
        go_wp2_with fail
        go_ret
        exact ⟨rfl, HL.out.old.still⟩
      · have t1 : decide ((i : Int) < (len : Int)) = false := by simp; omega
        go_wp2_with fail
        go_ret
        exact ⟨rfl, HL.out.old.still⟩
open Go.ChangeShapes Go.WideShapes in
theorem plays2_walk (n : Int) (v : Value) (w : World) (w1 : (Lit.int .u8 n).wf = true) {H : Type} {enc : TypeId × Value → H} {d : DataW H} {p : List MemPlace} {base : Nat}
    (h : DataW.Trod enc Try.prog w 0 (fun _ => true) true 58 v d p) (hv : Value.okWide Try.prog w .any base 58 v) :
    Calls Try.prog 15 #[.int .u8 n, v] w fun e w' => e = .returned (.bool true) ∧ Below w.heap.size w w' := by
  obtain ⟨len, hel⟩ := acts2_of_trod (okWide_slice Try.underlying58 hv) h
  exact plays02 n v len w (u8_bd w1) hel
end Go.Proofs.Ytlkglhgndfhjeaa
