/- columbarylaw02.LedgerApart: the walk. -/
import Derived.Test.YtlkglhgndfhjeaaGlp
namespace Go.Proofs.Ytlkglhgndfhjeaa
open Go Go.RowKit
set_option linter.unusedVariables false
set_option linter.unusedSimpArgs false
set_option maxRecDepth 100000

set_option maxHeartbeats 16000000 in
theorem apart02 (v u : Value) (p : List UInt8) (len : Nat) (w : World) (hp : Bytes w v p) (h : Elems w w.heap.size 5 (fun cs => ∃ c, IsAct2 w w.heap.size c cs) u len) :
    Calls Try.prog 11 #[v, u] w fun e w' => e = .returned (.bool true) ∧ Below w.heap.size w w' := by
  obtain ⟨a, cap, acts, rfl, hc1, hc2, hal, hact⟩ := acts2_list h
  have hlen : len ≤ 9223372036854775807 := by omega
  have HAL := Lib.hid hal; have HACT := Lib.hid hact; clear hal hact h
  have hp' := hp
  obtain ⟨aP, cP, rfl, hp1, hp2, _⟩ := hp
  have HP := Lib.hid hp'; clear hp'
  have hpl : (p.length : Int) ≤ 9223372036854775807 := by omega
  have haw := fun (w1 : World) => awake02 w1
  have HAW := Lib.hid haw; clear haw
  by_cases h100 : 100 < p.length
  · have t1 : decide ((100 : Int) < (p.length : Int)) = true := by simp; omega
    go_enter Try.func11, Try.ntmps11
    go_wp2_with fail
    refine (HAW.out w).mono ?_
    rintro e w1 ⟨rfl, o1⟩
    have O1 := Lib.hid o1; clear o1
    go_wp2_with fail
    refine (HAW.out w1).mono ?_
    rintro e w2 ⟨rfl, o2⟩
    have O2 := Lib.hid o2; clear o2
    go_wp2_with fail
    go_ret
    exact ⟨rfl, (O1.out.trans O2.out).still⟩
  have t1 : decide ((100 : Int) < (p.length : Int)) = false := by simp; omega
  go_enter Try.func11, Try.ntmps11
  go_wp2_with fail
  refine (HAW.out w).mono ?_
  rintro e w1 ⟨rfl, o1⟩
  have hn := new_v w 24 w1 o1 (by decide) (by decide)
  rw [show ((24 : Nat) : Int) = 24 from rfl] at hn
  have HN := Lib.hid hn; clear hn o1
  go_wp2_with fail
  refine HN.out.mono ?_
  rintro e w2 ⟨d, rfl, hd, o2⟩
  have htw := two_open w d w2 hd
  have HTW := Lib.hid htw; clear htw hd o2
  go_wp2_with fail
  refine HTW.out.mono ?_
  rintro e w3 ⟨la, sv1, av1, rfl, h2⟩
  have H2 := Lib.hid h2; clear h2
  go_wp2_with fail
  refine H2.out.mono ?_
  rintro e w4 ⟨lb, sv2, av2, U, fb, rfl, hs, hi, hl, e1, e2, e3⟩
  have hap := lp_append _ w U d la 16 0 6 24 [[]] _ p w4 (far_good (by rw [e1]; exact .inl (by decide))) hs (HP.out.still hs.lu.old) (by omega) (by decide)
  have ea : acode ((6 - 1) * 64) [[]] p = 0 := by
    unfold acode
    rw [if_neg (by omega), if_neg (by show ¬ (5 * 64 < 8 + 0 + (p.length + 8)); omega)]
  have ef : afs ((6 - 1) * 64) [[]] p = [[], p] := by unfold afs; rw [ea, if_pos rfl]; rfl
  rw [ea, ef] at hap
  have HAP := Lib.hid hap; have HI := Lib.hid hi; have HL := Lib.hid hl; have E1 := Lib.hid e1; have E2 := Lib.hid e2; have E3 := Lib.hid e3
  clear hap hs hi hl e1 e2 e3 ea ef
  go_wp2_with fail
  refine HAP.out.mono ?_
  rintro e w5 ⟨rfl, hs5, o5⟩
  have hi5 := HI.out.only o5 (fun k hk hs => hs.2 hk)
  have hsw := hs5.swap hi5 HL.out E1.out E2.out (Nat.le_trans E3.out (by decide))
  have HSW := Lib.hid hsw
  clear hs5 hi5 hsw o5 t1 HAP HI H2 HTW HN
  go_upto_block 0 with (fail)
  go_cut [] from 58 to 95 (fun w' => ∃ fs, Hid (LP (Holds2 0 6 116 [[], p]) w (fun _ => False) w' d lb 3000 12 6 24 fs))
  case first =>
    go_wp2_with fail
    go_loopw [15] (fun v wr => ∃ (i : Nat) (fs : List (List UInt8)), v = .int .i64 (i : Int) ∧ i ≤ 20 ∧ i ≤ len ∧ Hid (LP (Holds2 0 6 116 [[], p]) w (fun _ => False) wr d lb (116 + 100 * i) 12 6 24 fs)) (fun v _ => 20 - (intOf v).toNat)
    case atStart => exact ⟨0, [[]], by simp, by omega, by omega, HSW⟩
    case round =>
      obtain ⟨i, fs, rfl, hi20, hil, HS⟩ := hrel
      by_cases hlt : i < len ∧ i < 20
      · obtain ⟨hl1, hl2⟩ := hlt
        have t1 : decide ((i : Int) < (len : Int)) = true := by simp; omega
        have t2 : decide ((i : Int) < 20) = true := by simp; omega
        obtain ⟨bs, off, vp, rfl, hbs, k0, k1, k2, k3, k4, hold, kb, nb, kkb, tb⟩ := HACT.out i (by rw [HAL.out]; exact hl1)
        generalize (acts[i]'(by rw [HAL.out]; exact hl1)).kind = K at *
        generalize (acts[i]'(by rw [HAL.out]; exact hl1)).p = q at *
        have hW := HS.out.lu.old
        have g0 : wr.cell? ⟨bs, off + i * 5, none⟩ = some (.int .u8 K) := by rw [cell_only hW (a := ⟨bs, _, none⟩) hbs (fun h => h)]; exact k0
        have g1 : wr.cell? ⟨bs, off + i * 5 + 1, none⟩ = some vp := by rw [cell_only hW (a := ⟨bs, _, none⟩) hbs (fun h => h), Nat.add_assoc]; exact k1
        have ii0 : (0 : Int) ≤ (i : Int) := by omega
        have ii1 : (i : Int) < (len : Int) := by omega
        obtain ⟨aq, cq, rfl, hb1, hb2, hb3⟩ := hold.1
        have HOLD := Lib.hid hold.1
        clear hold nb kkb tb k0 k1 k2 k3 k4 hW hb3
        have hql : (q.length : Int) ≤ 9223372036854775807 := by omega
        have hkb1 := kb.1
        have hkb2 := kb.2
        clear hb1 hb2 kb
        by_cases h5 : 500 < q.length
        · have t3 : decide ((500 : Int) < (q.length : Int)) = true := by simp; omega
          go_wp2_with fail
          go_ret
          exact ⟨rfl, HS.out.lu.old.still⟩
        have t3 : decide ((500 : Int) < (q.length : Int)) = false := by simp; omega
        by_cases hk : K % 3 = 0
        · have t4 : ((K % 3) == 0) = true := by simp; omega
          have hsn := lp_snap _ w (fun _ => False) d lb _ 12 6 24 fs _ q wr (far_holds (.inr (by decide))) HS.out (HOLD.out.still HS.out.lu.old) (by omega) (by omega)
          obtain ⟨E, hE⟩ : ∃ E, (if (6 - 1) * 64 < q.length + 8 then (13 : Int) else 0) = E := ⟨_, rfl⟩
          obtain ⟨FS, hFS⟩ : ∃ FS, (if (6 - 1) * 64 < q.length + 8 then fs else [q]) = FS := ⟨_, rfl⟩
          rw [hE, hFS] at hsn
          have HSN := Lib.hid hsn
          clear hsn hE hFS hk
          go_wp2_with fail
          refine HSN.out.mono ?_
          rintro e w6 ⟨rfl, hs6, o6⟩
          have HS6 := Lib.hid (hs6.more (n := 116 + 100 * (i + 1)) (by omega) (by omega))
          clear hs6 o6 g0 g1
          go_wp2_with fail
          go_roundw
          case rel => exact ⟨i + 1, FS, by simp [go_sem], by omega, by omega, HS6⟩
          case measure => simp [intOf]; omega
        · have t4 : ((K % 3) == 0) = false := by simp; omega
          have hsn := lp_append _ w (fun _ => False) d lb _ 12 6 24 fs _ q wr (far_holds (.inr (by decide))) HS.out (HOLD.out.still HS.out.lu.old) (by omega) (by omega)
          obtain ⟨E, hE⟩ : ∃ E, acode ((6 - 1) * 64) fs q = E := ⟨_, rfl⟩
          obtain ⟨FS, hFS⟩ : ∃ FS, afs ((6 - 1) * 64) fs q = FS := ⟨_, rfl⟩
          rw [hE, hFS] at hsn
          have HSN := Lib.hid hsn
          clear hsn hE hFS hk
          go_wp2_with fail
          refine HSN.out.mono ?_
          rintro e w6 ⟨rfl, hs6, o6⟩
          have HS6 := Lib.hid (hs6.more (n := 116 + 100 * (i + 1)) (by omega) (by omega))
          clear hs6 o6 g0 g1
          go_wp2_with fail
          go_roundw
          case rel => exact ⟨i + 1, FS, by simp [go_sem], by omega, by omega, HS6⟩
          case measure => simp [intOf]; omega
      · have HEX := Lib.hid (HS.out.more (n := 3000) (by omega) (by decide))
        by_cases hl1 : i < len
        · have t1 : decide ((i : Int) < (len : Int)) = true := by simp; omega
          have t2 : decide ((i : Int) < 20) = false := by simp; omega
          go_wp2_with fail
          go_meet
          case rel => exact ⟨fs, HEX⟩
        · have t1 : decide ((i : Int) < (len : Int)) = false := by simp; omega
          go_wp2_with fail
          go_meet
          case rel => exact ⟨fs, HEX⟩
  case rest =>
    obtain ⟨fs, HS⟩ := hcut
    obtain ⟨wq, rfl⟩ : ∃ wq, wq = wc := ⟨wc, rfl⟩
    have hop := lp_open w (fun _ => False) d lb 3000 0 6 12 6 116 24 [] [p] fs wq HS.out (by decide) (by decide)
    rw [show ((0 : Nat) : Int) = 0 from rfl, show ((2 * 6 : Nat) : Int) = 12 from rfl] at hop
    have HOP := Lib.hid hop
    have hwo := HS.out.lu.old
    have HWO := Lib.hid hwo
    clear hop hwo
    go_wp2_with fail
    refine HOP.out.mono ?_
    rintro e w4' ⟨l', sv, av, rfl, hrec, o4⟩
    have ho9 : Only (fun _ => False) w w4' := HWO.out.trans' o4 (fun k hk hs => by omega)
    have hbp := HP.out.still ho9
    have hfa : ∀ w', Only (fun _ => False) w4' w' → Bytes w' (.slice aP p.length cP) p ∧ Recs w' (fun _ => True) sv av [] [p] := fun w' o => ⟨hbp.still o, hrec.only o (fun _ _ h => h)⟩
    have HFA := Lib.hid hfa; have HO9 := Lib.hid ho9
    clear hfa hrec hbp ho9 o4
    go_wp2_with fail
    refine wp_region_steps 12 (by kernel_rfl) rfl (by kernel_rfl) [some 103, some 104, some 105, some 106, some 107, some 108, some 109, some 110, some 111, some 112, some 113, some 114] rfl rfl (fun _ => False) [(fun v _ => v = (.int .i64 0)), (fun v _ => v = (.bool true)), (fun v _ => v = (.bool true)), (fun v _ => v = sv), (fun v _ => v = av), (fun v w1 => KeptV w1 (fun _ => True) v [] [p]), (fun v _ => v = (.slice aP p.length cP)), (fun v _ => v = (.string ⟨p.toArray⟩)), (fun v w1 => ∃ b, v = .slice (some ⟨b, 0, none⟩) 1 1 ∧ StrsAt w1 (fun _ => True) (some ⟨b, 0, none⟩) [p]), (fun v w1 => KeptV w1 (fun _ => True) v [] [p]), (fun v _ => v = (.bool true)), (fun v _ => v = (.bool true))] rfl ⟨?_, ?_, ?_, ?_, ?_, ?_, ?_, ?_, ?_, ?_, ?_, ?_, trivial⟩ _ rfl ⟨?_, ?_, ?_, ?_, ?_, ?_, ?_, ?_, ?_, ?_, ?_, ?_, trivial⟩ ?_
    · exact Stable.is _ _
    · exact Stable.is _ _
    · exact Stable.is _ _
    · exact Stable.is _ _
    · exact Stable.is _ _
    · exact fun v w1 w2 h ho => h.still ho
    · exact Stable.is _ _
    · exact Stable.is _ _
    · exact fun v w1 w2 h ho => by obtain ⟨b, h1, h2⟩ := h; exact ⟨b, h1, h2.only ho (fun _ _ h => h)⟩
    · exact fun v w1 w2 h ho => h.still ho
    · exact Stable.is _ _
    · exact Stable.is _ _
    · intro x wx ox hN TT HTT
      clear hN
      unfold StepTo
      simp only [putAll, Act.put, List.setIfInBounds_toArray, List.set_cons_succ, List.set_cons_zero]
      go_wp2_with fail
      exact ⟨rfl, _, rfl, HTT.out _ _ (rfl) (Only.refl _ _)⟩
    · intro x wx ox hN TT HTT
      have r103 : x 0 = (.int .i64 0) := hN.1 rfl
      clear hN
      unfold StepTo
      simp only [putAll, Act.put, List.setIfInBounds_toArray, List.set_cons_succ, List.set_cons_zero, r103]
      clear r103
      go_wp2_with fail
      exact ⟨rfl, _, rfl, HTT.out _ _ (rfl) (Only.refl _ _)⟩
    · intro x wx ox hN TT HTT
      have r104 : x 1 = (.bool true) := hN.1 rfl
      clear hN
      unfold StepTo
      simp only [putAll, Act.put, List.setIfInBounds_toArray, List.set_cons_succ, List.set_cons_zero, r104]
      clear r104
      go_wp2_with fail
      exact ⟨rfl, _, rfl, HTT.out _ _ (rfl) (Only.refl _ _)⟩
    · intro x wx ox hN TT HTT
      have r105 : x 2 = (.bool true) := hN.1 rfl
      clear hN
      unfold StepTo
      simp only [putAll, Act.put, List.setIfInBounds_toArray, List.set_cons_succ, List.set_cons_zero, r105]
      clear r105
      go_wp2_with fail
      exact ⟨rfl, _, rfl, HTT.out _ _ (rfl) (Only.refl _ _)⟩
    · intro x wx ox hN TT HTT
      have r105 : x 2 = (.bool true) := hN.1 rfl
      clear hN
      unfold StepTo
      simp only [putAll, Act.put, List.setIfInBounds_toArray, List.set_cons_succ, List.set_cons_zero, r105]
      clear r105
      go_wp2_with fail
      exact ⟨rfl, _, rfl, HTT.out _ _ (rfl) (Only.refl _ _)⟩
    · intro x wx ox hN TT HTT
      have r106 : x 3 = sv := hN.1 rfl
      have r107 : x 4 = av := hN.2.1 rfl
      have r105 : x 2 = (.bool true) := hN.2.2.1 rfl
      clear hN
      unfold StepTo
      simp only [putAll, Act.put, List.setIfInBounds_toArray, List.set_cons_succ, List.set_cons_zero, r106, r107, r105]
      clear r106 r107 r105
      have hc := of_any _ sv av [] [p] wx (HFA.out wx (((Only.refl _ w4').drew).trans ox)).2 (show 1 ≤ 1000000 by decide) (by decide)
      have HC := Lib.hid hc; clear hc
      go_wp2_with fail
      refine HC.out.mono ?_
      rintro e w6 ⟨v6, rfl, h6, o6⟩
      have H6 := Lib.hid h6; have O6 := Lib.hid o6; clear h6 o6
      go_wp2_with fail
      exact ⟨rfl, _, rfl, HTT.out _ _ (H6.out.weaken (fun _ _ _ => trivial)) (O6.out)⟩
    · intro x wx ox hN TT HTT
      have r105 : x 2 = (.bool true) := hN.1 rfl
      clear hN
      unfold StepTo
      simp only [putAll, Act.put, List.setIfInBounds_toArray, List.set_cons_succ, List.set_cons_zero, r105]
      clear r105
      go_wp2_with fail
      exact ⟨rfl, _, rfl, HTT.out _ _ (rfl) (Only.refl _ _)⟩
    · intro x wx ox hN TT HTT
      have r109 : x 6 = (.slice aP p.length cP) := hN.1 rfl
      have r105 : x 2 = (.bool true) := hN.2.1 rfl
      clear hN
      unfold StepTo
      simp only [putAll, Act.put, List.setIfInBounds_toArray, List.set_cons_succ, List.set_cons_zero, r109, r105]
      clear r109 r105
      have hcv := (HFA.out wx (((Only.refl _ w4').drew).trans ox)).1.conv
      go_wp2_with fail
      exact ⟨rfl, _, rfl, HTT.out _ _ (rfl) (Only.refl _ _)⟩
    · intro x wx ox hN TT HTT
      have r110 : x 7 = (.string ⟨p.toArray⟩) := hN.1 rfl
      have r105 : x 2 = (.bool true) := hN.2.1 rfl
      clear hN
      unfold StepTo
      simp only [putAll, Act.put, List.setIfInBounds_toArray, List.set_cons_succ, List.set_cons_zero, r110, r105]
      clear r110 r105
      go_wp2_with fail
      exact ⟨rfl, _, rfl, HTT.out _ _ (⟨_, rfl, strs_new _ _⟩) ((Only.refl _ _).alloc _)⟩
    · intro x wx ox hN TT HTT
      have r111 : (fun (v : Value) (w1 : World) => ∃ b, v = .slice (some ⟨b, 0, none⟩) 1 1 ∧ StrsAt w1 (fun _ => True) (some ⟨b, 0, none⟩) [p]) (x 8) wx := hN.1 rfl
      have r105 : x 2 = (.bool true) := hN.2.1 rfl
      clear hN
      unfold StepTo
      simp only [putAll, Act.put, List.setIfInBounds_toArray, List.set_cons_succ, List.set_cons_zero, r105]
      clear r105
      obtain ⟨b, h1, h2⟩ := r111
      rw [h1]
      have H2 := Lib.hid h2; clear h1 h2
      go_wp2_with fail
      exact ⟨rfl, _, rfl, HTT.out _ _ (⟨_, 1, rfl, Nat.le_refl _, by decide, H2.out⟩) (Only.refl _ _)⟩
    · intro x wx ox hN TT HTT
      have r108 : (fun (v : Value) (w1 : World) => KeptV w1 (fun _ => True) v [] [p]) (x 5) wx := hN.1 rfl
      have r112 : (fun (v : Value) (w1 : World) => KeptV w1 (fun _ => True) v [] [p]) (x 9) wx := hN.2.1 rfl
      have r105 : x 2 = (.bool true) := hN.2.2.2.1 rfl
      clear hN
      unfold StepTo
      simp only [putAll, Act.put, List.setIfInBounds_toArray, List.set_cons_succ, List.set_cons_zero, r105]
      clear r105
      have hc := same_true _ _ _ _ [] [p] wx r108 r112 (show 1 ≤ 100000000 by decide)
      have HC := Lib.hid hc; clear hc
      go_wp2_with fail
      refine HC.out.mono ?_
      rintro e w6 ⟨rfl, o6⟩
      have O6 := Lib.hid o6; clear o6
      go_wp2_with fail
      exact ⟨rfl, _, rfl, HTT.out _ _ (rfl) (O6.out)⟩
    · intro x wx ox hN TT HTT
      have r105 : x 2 = (.bool true) := hN.1 rfl
      have r113 : x 10 = (.bool true) := hN.2.1 rfl
      clear hN
      unfold StepTo
      simp only [putAll, Act.put, List.setIfInBounds_toArray, List.set_cons_succ, List.set_cons_zero, r105, r113]
      clear r105 r113
      go_wp2_with fail
      exact ⟨rfl, _, rfl, HTT.out _ _ (rfl) (Only.refl _ _)⟩
    intro xa wxa oxa hN
    have r103 : xa 0 = (.int .i64 0) := hN.1
    have r104 : xa 1 = (.bool true) := hN.2.1
    have r105 : xa 2 = (.bool true) := hN.2.2.1
    have r106 : xa 3 = sv := hN.2.2.2.1
    have r107 : xa 4 = av := hN.2.2.2.2.1
    have r108 : (fun (v : Value) (w1 : World) => KeptV w1 (fun _ => True) v [] [p]) (xa 5) wxa := hN.2.2.2.2.2.1
    have r109 : xa 6 = (.slice aP p.length cP) := hN.2.2.2.2.2.2.1
    have r110 : xa 7 = (.string ⟨p.toArray⟩) := hN.2.2.2.2.2.2.2.1
    have r111 : (fun (v : Value) (w1 : World) => ∃ b, v = .slice (some ⟨b, 0, none⟩) 1 1 ∧ StrsAt w1 (fun _ => True) (some ⟨b, 0, none⟩) [p]) (xa 8) wxa := hN.2.2.2.2.2.2.2.2.1
    have r112 : (fun (v : Value) (w1 : World) => KeptV w1 (fun _ => True) v [] [p]) (xa 9) wxa := hN.2.2.2.2.2.2.2.2.2.1
    have r113 : xa 10 = (.bool true) := hN.2.2.2.2.2.2.2.2.2.2.1
    have r114 : xa 11 = (.bool true) := hN.2.2.2.2.2.2.2.2.2.2.2.1
    clear hN
    simp only [putAll, Act.put, List.setIfInBounds_toArray, List.set_cons_succ, List.set_cons_zero, r103, r104, r105, r106, r107, r109, r110, r113, r114]
    clear r103 r104 r105 r106 r107 r109 r110 r113 r114
    have hon := ((Only.refl (fun _ => False) w4').drew).trans oxa
    have HON := Lib.hid hon
    clear hon oxa
    go_wp2_with fail
    go_ret
    exact ⟨rfl, (HO9.out.trans HON.out).still⟩
open Go.ChangeShapes Go.WideShapes in
theorem apart_walk (a : Option Addr) (len cap : Nat) (z : List Int) (v : Value) (w : World) (hr : IsRow .u8 w a len cap z) {H : Type} {enc : TypeId × Value → H} {d : DataW H} {p : List MemPlace} {base : Nat}
    (h : DataW.Trod enc Try.prog w 0 (fun _ => true) true 58 v d p) (hv : Value.okWide Try.prog w .any base 58 v) :
    Calls Try.prog 11 #[.slice a len cap, v] w fun e w' => e = .returned (.bool true) ∧ Below w.heap.size w w' := by
  obtain ⟨l, rfl, hb, _⟩ := bytes_row hr
  obtain ⟨n, hel⟩ := acts2_of_trod (okWide_slice Try.underlying58 hv) h
  exact apart02 _ v l n w hb hel
end Go.Proofs.Ytlkglhgndfhjeaa
