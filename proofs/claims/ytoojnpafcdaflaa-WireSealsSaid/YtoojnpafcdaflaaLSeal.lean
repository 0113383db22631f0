/- columbarylaw03.WireSeals: the walk. -/
import Derived.Test.YtoojnpafcdaflaaTrn
import Derived.Test.YtoojnpafcdaflaaAwk
import Derived.Test.YtoojnpafcdaflaaVrp
namespace Go.Proofs.Ytoojnpafcdaflaa
open Go Go.RowKit
set_option linter.unusedVariables false
set_option linter.unusedSimpArgs false
set_option maxRecDepth 100000

set_option maxHeartbeats 16000000 in
theorem seals0 (s : List UInt8) (at0 pt : Nat) (q : Value) (lq : List UInt8) (w : World) (hs : s.length ≤ maxLen) (hat : at0 < 65536) (hpt : pt < 4294967296) (hq : Bytes w q lq) :
    Calls Try.prog 7 #[.string ⟨s.toArray⟩, .int .u16 at0, .int .u32 pt, q] w fun e w' => e = .returned (.bool true) ∧ Below w.heap.size w w' := by
  have HQ := Lib.hid hq
  obtain ⟨qa, qc, rfl, q1, q2, q3⟩ := hq
  clear q3
  have hb1 : (s.length : Int) ≤ 9223372036854775807 := by unfold maxLen at hs; omega
  have hsz1 : (⟨s.toArray⟩ : ByteArray).size = s.length := by simp [ByteArray.size]
  have hb2 : (lq.length : Int) ≤ 9223372036854775807 := by omega
  obtain ⟨l1, hl1⟩ : ∃ b, b = decide (3000 < s.length) := ⟨_, rfl⟩
  obtain ⟨l2, hl2⟩ : ∃ b, b = decide (3000 < lq.length) := ⟨_, rfl⟩
  have ht1 : decide ((3000 : Int) < (s.length : Int)) = l1 := by rw [hl1]; exact decide_eq_decide.2 (by omega)
  have ht2 : decide (3000 < s.length) = l1 := hl1.symm
  have ht3 : decide ((3000 : Int) < (lq.length : Int)) = l2 := by rw [hl2]; exact decide_eq_decide.2 (by omega)
  have ht4 : decide (3000 < lq.length) = l2 := hl2.symm
  have HL1 := Lib.hid hl1; have HL2 := Lib.hid hl2; clear hl1 hl2 hs
  go_enter Try.func7, Try.ntmps7
  go_wp2_with fail
  refine (awake_any _).mono ?_
  rintro e w1 ⟨rfl, o1⟩
  have O1 := Lib.hid o1; clear o1
  cases l1 with
  | true =>
    go_wp2_with fail
    refine (awake_any _).mono ?_
    rintro e w9 ⟨rfl, o9⟩
    have O9 := Lib.hid o9; clear o9
    go_wp2_with fail
    go_ret
    exact ⟨rfl, (O1.out.trans O9.out).still⟩
  | false =>
  cases l2 with
  | true =>
    go_wp2_with fail
    refine (awake_any _).mono ?_
    rintro e w9 ⟨rfl, o9⟩
    have O9 := Lib.hid o9; clear o9
    go_wp2_with fail
    go_ret
    exact ⟨rfl, (O1.out.trans O9.out).still⟩
  | false =>
  have hs3 : s.length ≤ 3000 := by have := HL1.out; simp at this; exact this
  have hq3 : lq.length ≤ 3000 := by have := HL2.out; simp at this; exact this
  have hel : (encT s).length ≤ 4000 := by have := encU_len10 (n := s.length) (by omega); unfold encT; rw [List.length_append]; omega
  have hdec : decT 3000 (encT s) = some (s, []) := by have := decT_encA (most := 3000) s [] (by omega) hs3; rwa [List.append_nil] at this
  obtain ⟨L0, hL0⟩ : ∃ L, L = sealed (encT s) := ⟨_, rfl⟩
  have hlen := sealed_len (encT s)
  rw [← hL0] at hlen
  have hn0 : 4 ≤ L0.length := by omega
  have hn1 : L0.length ≤ 4004 := by omega
  have HS3 := Lib.hid hs3; have HQ3 := Lib.hid hq3; have HEL := Lib.hid hel; have HDEC := Lib.hid hdec; have HL0 := Lib.hid hL0; have HN0 := Lib.hid hn0; have HN1 := Lib.hid hn1; clear hs3 hq3 hel hdec hL0 hn0 hn1 hlen
  go_upto_region 4 with (fail)
  have hA := heap_new w1 (.cells #[.slice none 0 0] 26)
  have oA := O1.out.trans ((Only.refl (fun _ => False) w1).alloc (.cells #[.slice none 0 0] 26))
  have hws := WS.new hA
  have s01 : w.heap.size ≤ w1.heap.size := O1.out.size
  have HWS := Lib.hid hws; have OA := Lib.hid oA; have S01 := Lib.hid s01; clear hws hA oA s01
  go_wp2_with fail
  refine (wText_s s _ _ _ [] _ HWS.out (by have := HS3.out; omega) (by simp)).mono ?_
  rintro e w2 ⟨rfl, h2⟩
  rw [List.nil_append] at h2
  have hd := wSealed_s _ _ _ _ w2 h2 (by have := HEL.out; omega)
  rw [← HL0.out] at hd
  have o2 : Only (fun _ => False) w w2 := OA.out.trans' h2.only (fun k hk e => by have := S01.out; omega)
  have HD := Lib.hid hd; have O2 := Lib.hid o2; clear hd h2 o2
  go_wp2_with fail
  refine HD.out.mono ?_
  rintro e w3 ⟨v3, rfl, h3, o3⟩
  obtain ⟨g, c, rfl, hg1, hg2, _, _⟩ := own8_facts h3 (by have := HN0.out; omega)
  have O3 := Lib.hid (O2.out.trans o3); have H3 := Lib.hid h3; have HG1 := Lib.hid hg1; clear o3 h3 hg1 hg2
  go_wp2_with fail
  refine wp_region_steps 6 (by kernel_rfl) rfl (by kernel_rfl) [some 41, some 42, some 43, some 44, some 45, some 46] rfl rfl (fun _ => False) [(fun v _ => v = (.slice (some ⟨g, 0, none⟩) L0.length c)), (fun v _ => v = (.string ⟨L0.toArray⟩)), (fun v _ => v = (.string ⟨s.toArray⟩)), (fun v w1 => Bytes w1 v (encT s)), (fun v w1 => Bytes w1 v L0), (fun v _ => v = (.string ⟨L0.toArray⟩))] rfl ⟨?_, ?_, ?_, ?_, ?_, ?_, trivial⟩ _ rfl ⟨?_, ?_, ?_, ?_, ?_, ?_, trivial⟩ ?_
  · exact Stable.is _ _
  · exact Stable.is _ _
  · exact Stable.is _ _
  · exact (fun v w1 w2 h ho => h.still ho)
  · exact (fun v w1 w2 h ho => h.still ho)
  · exact Stable.is _ _
  · intro x wx ox hN TT HTT
    clear hN
    unfold StepTo
    simp only [putAll, Act.put, List.setIfInBounds_toArray, List.set_cons_succ, List.set_cons_zero]
    go_wp2_with fail
    exact ⟨rfl, _, rfl, HTT.out _ _ (rfl) (Only.refl _ _)⟩
  · intro x wx ox hN TT HTT
    have r41 : x 0 = (.slice (some ⟨g, 0, none⟩) L0.length c) := hN.1 rfl
    clear hN
    unfold StepTo
    simp only [putAll, Act.put, List.setIfInBounds_toArray, List.set_cons_succ, List.set_cons_zero, r41]
    clear r41
    have hcv := (H3.out.bytes.still (((Only.refl _ w3).drew).trans ox)).conv
    go_wp2_with fail
    exact ⟨rfl, _, rfl, HTT.out _ _ (rfl) (Only.refl _ _)⟩
  · intro x wx ox hN TT HTT
    clear hN
    unfold StepTo
    simp only [putAll, Act.put, List.setIfInBounds_toArray, List.set_cons_succ, List.set_cons_zero]
    go_wp2_with fail
    exact ⟨rfl, _, rfl, HTT.out _ _ (rfl) (Only.refl _ _)⟩
  · intro x wx ox hN TT HTT
    have r43 : x 2 = (.string ⟨s.toArray⟩) := hN.1 rfl
    clear hN
    unfold StepTo
    simp only [putAll, Act.put, List.setIfInBounds_toArray, List.set_cons_succ, List.set_cons_zero, r43]
    clear r43
    go_wp2_with fail
    refine (rText s wx (by have := HS3.out; omega)).mono ?_
    rintro e w6 ⟨v6, rfl, h6, o6⟩
    go_wp2_with fail
    exact ⟨rfl, _, rfl, HTT.out _ _ (h6.bytes) (o6)⟩
  · intro x wx ox hN TT HTT
    have r44 : (fun (v : Value) (w1 : World) => Bytes w1 v (encT s)) (x 3) wx := hN.1 rfl
    clear hN
    unfold StepTo
    simp only [putAll, Act.put, List.setIfInBounds_toArray, List.set_cons_succ, List.set_cons_zero]
    have hc := rSeal _ _ wx r44 (by have := HEL.out; omega)
    rw [← HL0.out] at hc
    have HC := Lib.hid hc; clear hc
    go_wp2_with fail
    refine HC.out.mono ?_
    rintro e w6 ⟨v6, rfl, h6, o6⟩
    go_wp2_with fail
    exact ⟨rfl, _, rfl, HTT.out _ _ (h6.bytes) (o6)⟩
  · intro x wx ox hN TT HTT
    have r45 : (fun (v : Value) (w1 : World) => Bytes w1 v L0) (x 4) wx := hN.1 rfl
    clear hN
    unfold StepTo
    simp only [putAll, Act.put, List.setIfInBounds_toArray, List.set_cons_succ, List.set_cons_zero]
    have hcv := r45.conv
    go_wp2_with fail
    exact ⟨rfl, _, rfl, HTT.out _ _ (rfl) (Only.refl _ _)⟩
  intro xa wxa oxa hN
  have r41 : xa 0 = (.slice (some ⟨g, 0, none⟩) L0.length c) := hN.1
  have r42 : xa 1 = (.string ⟨L0.toArray⟩) := hN.2.1
  have r43 : xa 2 = (.string ⟨s.toArray⟩) := hN.2.2.1
  have r44 : (fun (v : Value) (w1 : World) => Bytes w1 v (encT s)) (xa 3) wxa := hN.2.2.2.1
  have r45 : (fun (v : Value) (w1 : World) => Bytes w1 v L0) (xa 4) wxa := hN.2.2.2.2.1
  have r46 : xa 5 = (.string ⟨L0.toArray⟩) := hN.2.2.2.2.2.1
  clear hN
  simp only [putAll, Act.put, List.setIfInBounds_toArray, List.set_cons_succ, List.set_cons_zero, r41, r42, r43, r46]
  clear r41 r42 r43 r46
  have o3a := ((Only.refl (fun _ => False) w3).drew).trans oxa
  have h3a := H3.out.still o3a
  have O3a := Lib.hid (O3.out.trans o3a); have H3a := Lib.hid h3a; have HG2 := Lib.hid (Nat.le_trans O2.out.size HG1.out); clear o3a h3a oxa
  go_wp2_with fail
  refine (wOpen _ L0 wxa H3a.out.bytes (by have := HN1.out; omega)).mono ?_
  rintro e w4 ⟨o4, hcase⟩
  have hcase' : ∃ b, e = .returned (.tuple #[.pointer (some ⟨b, 0, none⟩), .int .i64 0]) ∧ wxa.heap.size ≤ b ∧ ReaderAt w4 b (encT s) false := by
    rcases hcase with ⟨h, _⟩ | ⟨_, h, _⟩ | ⟨m, b, h1, h2, h3, h4⟩
    · have := HN0.out; omega
    · exact absurd ⟨_, HL0.out⟩ h
    · have := sealed_inj (HL0.out.symm.trans h1)
      subst this
      exact ⟨b, h2, h3, h4⟩
  clear hcase
  obtain ⟨b, rfl, hb, hr⟩ := hcase'
  have H4a := H3a.out.still o4
  have O4 := Lib.hid o4; have HB := Lib.hid hb; have HR := Lib.hid hr; clear o4 hb hr H4a
  go_wp2_with fail
  refine (rtext_b b 3000 (encT s) false w4 HR.out (by decide)).mono ?_
  rintro e w5 ⟨s5, r5, β5, rfl, hs5, h5, o5, k1, k2⟩
  have hβ : β5 = false := by
    cases β5 with
    | false => rfl
    | true => rcases (k2 rfl).2 with h | h; (cases h); (rw [HDEC.out] at h; cases h)
  subst hβ
  have hk := (k1 rfl).2
  rw [HDEC.out] at hk
  injection hk with hk
  injection hk with hk1 hk2
  subst hk1; subst hk2
  have hE := end_any b [] false w5 h5
  have HE := Lib.hid hE
  have h5a : Own8 w5 w2.heap.size (.slice (some ⟨g, 0, none⟩) L0.length c) L0 := (H3a.out.still O4.out).only o5 (fun k hk e => by
    have := (H3a.out.ge hk).2; have := HB.out; omega)
  have hall : Only (fun _ => False) w w5 := (O3a.out.trans O4.out).trans' o5 (fun k hk e => by have := HB.out; have := O3a.out.size; omega)
  have O5 := Lib.hid hall; have H5 := Lib.hid h5a; clear hE k1 k2 h5 o5 hs5 h5a hall
  go_wp2_with fail
  refine HE.out.mono ?_
  rintro e w6 ⟨rfl, rfl⟩
  clear HE HDEC HR HB O4 H3a O3a H3 O3 HD HWS OA r44 r45
  obtain ⟨n, hn⟩ : ∃ n, n = L0.length := ⟨_, rfl⟩
  have hn4 : (4 : Int) ≤ (n : Int) := by have := HN0.out; omega
  have hn5 : (n : Int) ≤ 4004 := by have := HN1.out; omega
  have h5n := H5.out
  have HLN0 := Lib.hid hn.symm
  rw [← hn] at h5n ⊢
  have H5 := Lib.hid h5n; clear h5n
  have hnz : ¬ (8 * (n : Int) = 0) := by omega
  have hat0 : (0 : Int) ≤ (at0 : Int) := by omega
  have hat1 : (at0 : Int) ≤ 65535 := by omega
  obtain ⟨k, hk⟩ : ∃ k, k = at0 % (8 * n) := ⟨_, rfl⟩
  have hkt : Int.tmod (at0 : Int) (8 * (n : Int)) = (k : Int) := by
    rw [hk]
    rw [show (8 * (n : Int)) = ((8 * n : Nat) : Int) from by omega, Int.natCast_emod]
    exact Int.tmod_eq_emod_of_nonneg (by omega)
  have hkn : k < 8 * n := by rw [hk]; exact Nat.mod_lt _ (by omega)
  have HN := Lib.hid hn; have HK := Lib.hid hk; have HKN := Lib.hid hkn; clear hk hkn hn
  go_wp2_with fail
  go_loopw [13, 15] (fun t i wr => ∃ (i' : Nat) (L : List UInt8) (tb : Bool), t = .bool tb ∧ i = .int .i64 i' ∧ i' ≤ 32 ∧ Hid (L.length = n) ∧ Hid (Own8 wr w2.heap.size (.slice (some ⟨g, 0, none⟩) n c) L) ∧ Hid (num L0 ^^^ num L = 2 ^ k * (pt % 2 ^ i')) ∧ Hid (tb = decide (pt % 2 ^ i' ≠ 0)) ∧ Hid (k + i' ≤ 8 * n) ∧ Hid (Only (fun q => q = g) w5 wr)) (fun _ i _ => 32 - (intOf i).toNat)
  case atStart => exact ⟨0, L0, false, rfl, rfl, by omega, HLN0, H5, Lib.hid (by simp [Nat.mod_one]), Lib.hid (by simp [Nat.mod_one]), Lib.hid (by have := HKN.out; omega), Lib.hid (Only.refl _ _)⟩
  case round =>
    obtain ⟨i', L, tb, rfl, rfl, hi', HLL, HOW, HNUM, HTB, HKI, HO⟩ := hrel
    by_cases hc : i' < 32 ∧ k + i' < 8 * n
    · obtain ⟨hc1, hc2⟩ := hc
      obtain ⟨q, hq⟩ : ∃ q, q = k + i' := ⟨_, rfl⟩
      obtain ⟨j, hj⟩ : ∃ j, j = q / 8 := ⟨_, rfl⟩
      obtain ⟨t, ht⟩ : ∃ t, t = q % 8 := ⟨_, rfl⟩
      have hqi : (k : Int) + (i' : Int) = (q : Int) := by omega
      have hqj : Int.tdiv (q : Int) 8 = (j : Int) := by rw [Int.tdiv_eq_ediv_of_nonneg (by omega)]; omega
      have hqt : Int.tmod (q : Int) 8 = (t : Int) := by rw [Int.tmod_eq_emod_of_nonneg (by omega)]; omega
      have hqj2 : (q : Int) / 8 = (j : Int) := by omega
      have hqt2 : (q : Int) % 8 = (t : Int) := by omega
      have t1 : decide ((i' : Int) < 32) = true := by simp; omega
      have t2 : decide ((q : Int) < 8 * (n : Int)) = true := by simp; omega
      have t3 : decide (i' < 32) = true := by simpa using hc1
      have hk0 : (0 : Int) ≤ (k : Int) := by omega
      have hk1 : (k : Int) ≤ 40000 := by omega
      have hi0 : (0 : Int) ≤ (i' : Int) := by omega
      have hi1 : (i' : Int) ≤ 31 := by omega
      have hq0 : (0 : Int) ≤ (q : Int) := by omega
      have hq1 : (q : Int) ≤ 40031 := by omega
      have hj0 : (0 : Int) ≤ (j : Int) := by omega
      have hj1 : (j : Int) < (n : Int) := by omega
      have ht0 : (0 : Int) ≤ (t : Int) := by omega
      have ht1' : (t : Int) ≤ 7 := by omega
      have hjn : j < L.length := by rw [HLL.out]; omega
      have hand : bits BinOp.and IntKind.u32 ((pt : Int) / 2 ^ i') 1 = ((pt / 2 ^ i' % 2 : Nat) : Int) := by
        have h := and1 (pt / 2 ^ i') (Nat.lt_of_le_of_lt (Nat.div_le_self _ _) hpt)
        rw [← h]; congr 1
      have hlow := low_succ pt i'
      have HKI1 : Hid (k + (i' + 1) ≤ 8 * n) := Lib.hid (by omega)
      have HQ8 : Hid (q = 8 * j + t ∧ q = k + i' ∧ t < 8) := Lib.hid ⟨by omega, by omega, by omega⟩
      have HLOW := Lib.hid hlow; have HAND := Lib.hid hand; have HJN := Lib.hid hjn; clear hlow hand hq hj ht hjn
      by_cases hbit : pt / 2 ^ i' % 2 = 1
      · have hb1 : (bits BinOp.and IntKind.u32 ((pt : Int) / 2 ^ i') 1 == 1) = true := by rw [HAND.out, hbit]; rfl
        obtain ⟨g', c', e', hB, hglt, hfz, hcell⟩ := own8_facts (show Own8 wr w2.heap.size (.slice (some ⟨g, 0, none⟩) n c) L from HOW.out) (by rw [HLL.out]; have := HKN.out; omega)
        injection e' with e1 e2 e3
        injection e1 with e1
        injection e1 with e1
        subst e1
        have HBIT := Lib.hid hbit; have HFZ := Lib.hid hfz; have HCE := Lib.hid (hcell j HJN.out); clear hbit hfz hcell e2 e3
        go_wp2_with fail
        refine wp_region_steps 19 (by kernel_rfl) rfl (by kernel_rfl) [some 90, some 91, some 92, some 93, some 94, some 95, some 96, some 97, some 98, some 99, some 100, some 101, some 102, some 103, some 104, some 105, some 106, some 107, some 108] rfl rfl (fun _ => False) [(fun v _ => v = (.slice (some ⟨g, 0, none⟩) n c)), (fun v _ => v = (.int .i64 k)), (fun v _ => v = (.int .i64 i')), (fun v _ => v = (.int .i64 q)), (fun v _ => v = (.int .i64 j)), (fun v _ => v = (.slice (some ⟨g, 0, none⟩) n c)), (fun v _ => v = (.int .i64 k)), (fun v _ => v = (.int .i64 i')), (fun v _ => v = (.int .i64 q)), (fun v _ => v = (.int .i64 j)), (fun v _ => v = (.pointer (some ⟨g, j, none⟩))), (fun v _ => v = (.int .u8 ((L[j].toNat : Nat) : Int))), (fun v _ => v = (.int .i64 k)), (fun v _ => v = (.int .i64 i')), (fun v _ => v = (.int .i64 q)), (fun v _ => v = (.int .i64 t)), (fun v _ => v = (.int .u8 ((2 ^ t : Nat) : Int))), (fun v _ => v = (.int .u8 ((L[j].toNat ^^^ 2 ^ t : Nat) : Int))), (fun v _ => v = (.pointer (some ⟨g, j, none⟩)))] rfl ⟨?_, ?_, ?_, ?_, ?_, ?_, ?_, ?_, ?_, ?_, ?_, ?_, ?_, ?_, ?_, ?_, ?_, ?_, ?_, trivial⟩ _ rfl ⟨?_, ?_, ?_, ?_, ?_, ?_, ?_, ?_, ?_, ?_, ?_, ?_, ?_, ?_, ?_, ?_, ?_, ?_, ?_, trivial⟩ ?_
        · exact Stable.is _ _
        · exact Stable.is _ _
        · exact Stable.is _ _
        · exact Stable.is _ _
        · exact Stable.is _ _
        · exact Stable.is _ _
        · exact Stable.is _ _
        · exact Stable.is _ _
        · exact Stable.is _ _
        · exact Stable.is _ _
        · exact Stable.is _ _
        · exact Stable.is _ _
        · exact Stable.is _ _
        · exact Stable.is _ _
        · exact Stable.is _ _
        · exact Stable.is _ _
        · exact Stable.is _ _
        · exact Stable.is _ _
        · exact Stable.is _ _
        · intro x wx ox hN TT HTT
          clear hN
          unfold StepTo
          simp only [putAll, Act.put, List.setIfInBounds_toArray, List.set_cons_succ, List.set_cons_zero]
          go_wp2_with fail
          exact ⟨rfl, _, rfl, HTT.out _ _ (rfl) (Only.refl _ _)⟩
        · intro x wx ox hN TT HTT
          clear hN
          unfold StepTo
          simp only [putAll, Act.put, List.setIfInBounds_toArray, List.set_cons_succ, List.set_cons_zero]
          go_wp2_with fail
          exact ⟨rfl, _, rfl, HTT.out _ _ (rfl) (Only.refl _ _)⟩
        · intro x wx ox hN TT HTT
          clear hN
          unfold StepTo
          simp only [putAll, Act.put, List.setIfInBounds_toArray, List.set_cons_succ, List.set_cons_zero]
          go_wp2_with fail
          exact ⟨rfl, _, rfl, HTT.out _ _ (rfl) (Only.refl _ _)⟩
        · intro x wx ox hN TT HTT
          have r91 : x 1 = (.int .i64 k) := hN.1 rfl
          have r92 : x 2 = (.int .i64 i') := hN.2.1 rfl
          clear hN
          unfold StepTo
          simp only [putAll, Act.put, List.setIfInBounds_toArray, List.set_cons_succ, List.set_cons_zero, r91, r92]
          clear r91 r92
          go_wp2_with fail
          exact ⟨rfl, _, rfl, HTT.out _ _ (rfl) (Only.refl _ _)⟩
        · intro x wx ox hN TT HTT
          have r93 : x 3 = (.int .i64 q) := hN.1 rfl
          clear hN
          unfold StepTo
          simp only [putAll, Act.put, List.setIfInBounds_toArray, List.set_cons_succ, List.set_cons_zero, r93]
          clear r93
          go_wp2_with fail
          exact ⟨rfl, _, rfl, HTT.out _ _ (rfl) (Only.refl _ _)⟩
        · intro x wx ox hN TT HTT
          clear hN
          unfold StepTo
          simp only [putAll, Act.put, List.setIfInBounds_toArray, List.set_cons_succ, List.set_cons_zero]
          go_wp2_with fail
          exact ⟨rfl, _, rfl, HTT.out _ _ (rfl) (Only.refl _ _)⟩
        · intro x wx ox hN TT HTT
          clear hN
          unfold StepTo
          simp only [putAll, Act.put, List.setIfInBounds_toArray, List.set_cons_succ, List.set_cons_zero]
          go_wp2_with fail
          exact ⟨rfl, _, rfl, HTT.out _ _ (rfl) (Only.refl _ _)⟩
        · intro x wx ox hN TT HTT
          clear hN
          unfold StepTo
          simp only [putAll, Act.put, List.setIfInBounds_toArray, List.set_cons_succ, List.set_cons_zero]
          go_wp2_with fail
          exact ⟨rfl, _, rfl, HTT.out _ _ (rfl) (Only.refl _ _)⟩
        · intro x wx ox hN TT HTT
          have r96 : x 6 = (.int .i64 k) := hN.1 rfl
          have r97 : x 7 = (.int .i64 i') := hN.2.1 rfl
          clear hN
          unfold StepTo
          simp only [putAll, Act.put, List.setIfInBounds_toArray, List.set_cons_succ, List.set_cons_zero, r96, r97]
          clear r96 r97
          go_wp2_with fail
          exact ⟨rfl, _, rfl, HTT.out _ _ (rfl) (Only.refl _ _)⟩
        · intro x wx ox hN TT HTT
          have r98 : x 8 = (.int .i64 q) := hN.1 rfl
          clear hN
          unfold StepTo
          simp only [putAll, Act.put, List.setIfInBounds_toArray, List.set_cons_succ, List.set_cons_zero, r98]
          clear r98
          go_wp2_with fail
          exact ⟨rfl, _, rfl, HTT.out _ _ (rfl) (Only.refl _ _)⟩
        · intro x wx ox hN TT HTT
          have r95 : x 5 = (.slice (some ⟨g, 0, none⟩) n c) := hN.1 rfl
          have r99 : x 9 = (.int .i64 j) := hN.2.1 rfl
          clear hN
          unfold StepTo
          simp only [putAll, Act.put, List.setIfInBounds_toArray, List.set_cons_succ, List.set_cons_zero, r95, r99]
          clear r95 r99
          go_wp2_with fail
          exact ⟨rfl, _, rfl, HTT.out _ _ (rfl) (Only.refl _ _)⟩
        · intro x wx ox hN TT HTT
          have r100 : x 10 = (.pointer (some ⟨g, j, none⟩)) := hN.1 rfl
          clear hN
          unfold StepTo
          simp only [putAll, Act.put, List.setIfInBounds_toArray, List.set_cons_succ, List.set_cons_zero, r100]
          clear r100
          have hce := (cell_only (((Only.refl (fun _ => False) wr).drew).trans ox) (a := ⟨g, j, none⟩) hglt (fun h => h)).trans HCE.out
          go_wp2_with fail
          exact ⟨rfl, _, rfl, HTT.out _ _ (rfl) (Only.refl _ _)⟩
        · intro x wx ox hN TT HTT
          clear hN
          unfold StepTo
          simp only [putAll, Act.put, List.setIfInBounds_toArray, List.set_cons_succ, List.set_cons_zero]
          go_wp2_with fail
          exact ⟨rfl, _, rfl, HTT.out _ _ (rfl) (Only.refl _ _)⟩
        · intro x wx ox hN TT HTT
          clear hN
          unfold StepTo
          simp only [putAll, Act.put, List.setIfInBounds_toArray, List.set_cons_succ, List.set_cons_zero]
          go_wp2_with fail
          exact ⟨rfl, _, rfl, HTT.out _ _ (rfl) (Only.refl _ _)⟩
        · intro x wx ox hN TT HTT
          have r102 : x 12 = (.int .i64 k) := hN.1 rfl
          have r103 : x 13 = (.int .i64 i') := hN.2.1 rfl
          clear hN
          unfold StepTo
          simp only [putAll, Act.put, List.setIfInBounds_toArray, List.set_cons_succ, List.set_cons_zero, r102, r103]
          clear r102 r103
          go_wp2_with fail
          exact ⟨rfl, _, rfl, HTT.out _ _ (rfl) (Only.refl _ _)⟩
        · intro x wx ox hN TT HTT
          have r104 : x 14 = (.int .i64 q) := hN.1 rfl
          clear hN
          unfold StepTo
          simp only [putAll, Act.put, List.setIfInBounds_toArray, List.set_cons_succ, List.set_cons_zero, r104]
          clear r104
          go_wp2_with fail
          exact ⟨rfl, _, rfl, HTT.out _ _ (rfl) (Only.refl _ _)⟩
        · intro x wx ox hN TT HTT
          have r105 : x 15 = (.int .i64 t) := hN.1 rfl
          clear hN
          unfold StepTo
          simp only [putAll, Act.put, List.setIfInBounds_toArray, List.set_cons_succ, List.set_cons_zero, r105]
          clear r105
          go_wp2_with fail
          exact ⟨rfl, _, rfl, HTT.out _ _ (congrArg (Value.int IntKind.u8) (pow_mod_byte HQ8.out.2.2)) (Only.refl _ _)⟩
        · intro x wx ox hN TT HTT
          have r101 : x 11 = (.int .u8 ((L[j].toNat : Nat) : Int)) := hN.1 rfl
          have r106 : x 16 = (.int .u8 ((2 ^ t : Nat) : Int)) := hN.2.1 rfl
          clear hN
          unfold StepTo
          simp only [putAll, Act.put, List.setIfInBounds_toArray, List.set_cons_succ, List.set_cons_zero, r101, r106]
          clear r101 r106
          go_wp2_with fail
          exact ⟨rfl, _, rfl, HTT.out _ _ (congrArg (Value.int IntKind.u8) (x8p (a := L[j].toNat) (t := t) L[j].toNat_lt HQ8.out.2.2)) (Only.refl _ _)⟩
        · intro x wx ox hN TT HTT
          have r90 : x 0 = (.slice (some ⟨g, 0, none⟩) n c) := hN.1 rfl
          have r94 : x 4 = (.int .i64 j) := hN.2.1 rfl
          have r91 : x 1 = (.int .i64 k) := hN.2.2.2.1 rfl
          have r92 : x 2 = (.int .i64 i') := hN.2.2.2.2.1 rfl
          have r93 : x 3 = (.int .i64 q) := hN.2.2.2.2.2.1 rfl
          have r95 : x 5 = (.slice (some ⟨g, 0, none⟩) n c) := hN.2.2.2.2.2.2.2.1 rfl
          have r96 : x 6 = (.int .i64 k) := hN.2.2.2.2.2.2.2.2.1 rfl
          have r97 : x 7 = (.int .i64 i') := hN.2.2.2.2.2.2.2.2.2.1 rfl
          have r98 : x 8 = (.int .i64 q) := hN.2.2.2.2.2.2.2.2.2.2.1 rfl
          have r99 : x 9 = (.int .i64 j) := hN.2.2.2.2.2.2.2.2.2.2.2.1 rfl
          have r100 : x 10 = (.pointer (some ⟨g, j, none⟩)) := hN.2.2.2.2.2.2.2.2.2.2.2.2.1 rfl
          have r101 : x 11 = (.int .u8 ((L[j].toNat : Nat) : Int)) := hN.2.2.2.2.2.2.2.2.2.2.2.2.2.1 rfl
          have r102 : x 12 = (.int .i64 k) := hN.2.2.2.2.2.2.2.2.2.2.2.2.2.2.1 rfl
          have r103 : x 13 = (.int .i64 i') := hN.2.2.2.2.2.2.2.2.2.2.2.2.2.2.2.1 rfl
          have r104 : x 14 = (.int .i64 q) := hN.2.2.2.2.2.2.2.2.2.2.2.2.2.2.2.2.1 rfl
          have r105 : x 15 = (.int .i64 t) := hN.2.2.2.2.2.2.2.2.2.2.2.2.2.2.2.2.2.1 rfl
          have r106 : x 16 = (.int .u8 ((2 ^ t : Nat) : Int)) := hN.2.2.2.2.2.2.2.2.2.2.2.2.2.2.2.2.2.2.1 rfl
          have r107 : x 17 = (.int .u8 ((L[j].toNat ^^^ 2 ^ t : Nat) : Int)) := hN.2.2.2.2.2.2.2.2.2.2.2.2.2.2.2.2.2.2.2.1 rfl
          clear hN
          unfold StepTo
          simp only [putAll, Act.put, List.setIfInBounds_toArray, List.set_cons_succ, List.set_cons_zero, r90, r94, r91, r92, r93, r95, r96, r97, r98, r99, r100, r101, r102, r103, r104, r105, r106, r107]
          clear r90 r94 r91 r92 r93 r95 r96 r97 r98 r99 r100 r101 r102 r103 r104 r105 r106 r107
          go_wp2_with fail
          exact ⟨rfl, _, rfl, HTT.out _ _ (rfl) (Only.refl _ _)⟩
        intro xb wxb oxb hN
        have r90 : xb 0 = (.slice (some ⟨g, 0, none⟩) n c) := hN.1
        have r91 : xb 1 = (.int .i64 k) := hN.2.1
        have r92 : xb 2 = (.int .i64 i') := hN.2.2.1
        have r93 : xb 3 = (.int .i64 q) := hN.2.2.2.1
        have r94 : xb 4 = (.int .i64 j) := hN.2.2.2.2.1
        have r95 : xb 5 = (.slice (some ⟨g, 0, none⟩) n c) := hN.2.2.2.2.2.1
        have r96 : xb 6 = (.int .i64 k) := hN.2.2.2.2.2.2.1
        have r97 : xb 7 = (.int .i64 i') := hN.2.2.2.2.2.2.2.1
        have r98 : xb 8 = (.int .i64 q) := hN.2.2.2.2.2.2.2.2.1
        have r99 : xb 9 = (.int .i64 j) := hN.2.2.2.2.2.2.2.2.2.1
        have r100 : xb 10 = (.pointer (some ⟨g, j, none⟩)) := hN.2.2.2.2.2.2.2.2.2.2.1
        have r101 : xb 11 = (.int .u8 ((L[j].toNat : Nat) : Int)) := hN.2.2.2.2.2.2.2.2.2.2.2.1
        have r102 : xb 12 = (.int .i64 k) := hN.2.2.2.2.2.2.2.2.2.2.2.2.1
        have r103 : xb 13 = (.int .i64 i') := hN.2.2.2.2.2.2.2.2.2.2.2.2.2.1
        have r104 : xb 14 = (.int .i64 q) := hN.2.2.2.2.2.2.2.2.2.2.2.2.2.2.1
        have r105 : xb 15 = (.int .i64 t) := hN.2.2.2.2.2.2.2.2.2.2.2.2.2.2.2.1
        have r106 : xb 16 = (.int .u8 ((2 ^ t : Nat) : Int)) := hN.2.2.2.2.2.2.2.2.2.2.2.2.2.2.2.2.1
        have r107 : xb 17 = (.int .u8 ((L[j].toNat ^^^ 2 ^ t : Nat) : Int)) := hN.2.2.2.2.2.2.2.2.2.2.2.2.2.2.2.2.2.1
        have r108 : xb 18 = (.pointer (some ⟨g, j, none⟩)) := hN.2.2.2.2.2.2.2.2.2.2.2.2.2.2.2.2.2.2.1
        clear hN
        simp only [putAll, Act.put, List.setIfInBounds_toArray, List.set_cons_succ, List.set_cons_zero, r90, r91, r92, r93, r94, r95, r96, r97, r98, r99, r100, r101, r102, r103, r104, r105, r106, r107, r108]
        clear r90 r91 r92 r93 r94 r95 r96 r97 r98 r99 r100 r101 r102 r103 r104 r105 r106 r107 r108
        have oo := ((Only.refl (fun _ => False) wr).drew).trans oxb
        obtain ⟨x, hx⟩ := byte_of (xor_byte (a := L[j].toNat) (t := t) L[j].toNat_lt HQ8.out.2.2)
        have hce := (cell_only oo (a := ⟨g, j, none⟩) hglt (fun h => h)).trans HCE.out
        have hfz := (frozen_only oo (a := ⟨g, j, none⟩) hglt (fun h => h)).trans (HFZ.out j)
        have hgl2 := Nat.lt_of_lt_of_le hglt oo.size
        have hset := own8_set (by rw [HLL.out]; exact HOW.out.still oo) HJN.out x
        have hsl : (L.set j x).length = n := by rw [List.length_set]; exact HLL.out
        rw [hsl, hx] at hset
        have ho2 : Only (fun q => q = g) w5 (wxb.setCell ⟨g, j, none⟩ (.int .u8 ((L[j].toNat ^^^ 2 ^ t : Nat) : Int))) := (HO.out.trans' oo (fun _ _ h => h.elim)).setCell (p := ⟨g, j, none⟩) (.inl rfl) _
        have hnx := num_next HNUM.out HJN.out HQ8.out.2.2 hx (by have := HQ8.out; omega) HBIT.out
        have HX := Lib.hid hx; have HSET := Lib.hid hset; have HSL := Lib.hid hsl; have HO2 := Lib.hid ho2; have HNX := Lib.hid hnx; clear hx hset hsl ho2 hnx oo oxb
        go_wp2_with fail
        go_roundw
        case rel => exact ⟨i' + 1, L.set j x, true, rfl, by simp [go_sem], by omega, HSL, HSET, HNX, Lib.hid (decide_low HBIT.out), HKI1, HO2⟩
        case measure => simp [intOf]; omega
      · have hb1 : (bits BinOp.and IntKind.u32 ((pt : Int) / 2 ^ i') 1 == 1) = false := by rw [HAND.out]; exact bit_not hbit
        have hlw := HLOW.out
        rw [if_neg hbit] at hlw
        have HLW := Lib.hid hlw; clear hlw hbit HLOW
        go_wp2_with fail
        go_roundw
        case rel => exact ⟨i' + 1, L, tb, rfl, by simp [go_sem], by omega, HLL, HOW, Lib.hid (by rw [HLW.out]; exact HNUM.out), Lib.hid (by rw [HLW.out]; exact HTB.out), HKI1, HO⟩
        case measure => simp [intOf]; omega
    · have hseal : Sealed L0 := ⟨_, HL0.out⟩
      have hcode := fun c h => turned_code (L := L) (c := c) hseal (by rw [HLL.out]; exact HLN0.out.symm) (by have := HKN.out; rw [HLN0.out]; omega) (low_lt hi') HNUM.out h
      have hbL := HOW.out.bytes
      have hall : Only (fun _ => False) w wr := O5.out.trans' HO.out (fun q hq e => by have := HG2.out; omega)
      have hqr := HQ.out.still hall
      have hLl : L.length ≤ 1000000000 := by rw [HLL.out]; have := HN1.out; have := HLN0.out; omega
      have HCODE := Lib.hid hcode; have HBL := Lib.hid hbL; have HALL := Lib.hid hall; have HQR := Lib.hid hqr; have HLl := Lib.hid hLl; clear hseal hcode hbL hall hqr hLl
      have hq0 : (0 : Int) ≤ (i' : Int) := by omega
      have hq1 : (i' : Int) ≤ 32 := by omega
      have hk0 : (0 : Int) ≤ (k : Int) := by omega
      have hk1 : (k : Int) ≤ 40000 := by have := HKN.out; omega
      have key : (decide ((i' : Int) < 32) = false ∨ (decide ((i' : Int) < 32) = true ∧ decide ((k : Int) + (i' : Int) < 8 * (n : Int)) = false)) := by
        by_cases h : i' < 32
        · exact .inr ⟨by simp; omega, by simp; omega⟩
        · exact .inl (by simp; omega)
      have HC := Lib.hid hc; clear hc
      have hend : ∀ e w', Only (fun _ => False) w w' → e = Ending.returned (.bool true) → e = .returned (.bool true) ∧ Below w.heap.size w w' := fun e w' ho he => ⟨he, ho.still⟩
      have HEND := Lib.hid hend; clear hend
      rcases key with key | ⟨key, key2⟩
      all_goals
        go_wp2_with fail
        refine (wOpen _ L wr HBL.out HLl.out).mono ?_
        rintro e w7 hr7
        obtain ⟨v7, c7, rfl, hc7, o7⟩ := hr7.code
        have HC7 := Lib.hid (HCODE.out _ hc7); have O7 := Lib.hid o7; clear hc7 o7 hr7
        go_wp2_with fail
        refine (wOpen _ lq w7 (HQR.out.still O7.out) (by have := HQ3.out; omega)).mono ?_
        rintro e w8 hr8
        obtain ⟨v8, c8, rfl, hc8, o8⟩ := hr8.code
        have HC8 := Lib.hid hc8; have O8 := Lib.hid (O7.out.trans o8); clear hc8 o8 hr8
        go_wp2_with fail
        refine (rOpen _ lq w8 (HQR.out.still O8.out) (by have := HQ3.out; omega)).mono ?_
        rintro e w9 hr9
        obtain ⟨v9, c9, rfl, hc9, o9⟩ := hr9.code
        have h89 := HC8.out.one hc9
        subst h89
        have O9 := Lib.hid (HALL.out.trans (O8.out.trans o9)); clear hc9 o9 hr9
        rcases HC7.out with ⟨hp, rfl⟩ | ⟨hp, rfl, _⟩
        · have htb : tb = true := by rw [HTB.out]; simp [hp]
          subst htb
          clear HC7 HTB HNUM HOW
          go_wp2_with fail
          go_ret
          exact HEND.out _ _ O9.out rfl
        · have htb : tb = false := by rw [HTB.out]; simp [hp]
          subst htb
          clear HC7 HTB HNUM HOW
          go_wp2_with fail
          go_ret
          exact HEND.out _ _ O9.out rfl
theorem seals_walk (a0 : ByteArray) (a1 a2 : Int) (a3 : Option Addr) (len3 cap3 : Nat) (z3 : List Int) (w : World) (h0 : a0.size ≤ maxLen) (h1 : (Lit.int .u16 a1).wf = true) (h2 : (Lit.int .u32 a2).wf = true) (h3 : IsRow .u8 w a3 len3 cap3 z3) :
    Calls Try.prog 7 #[.string a0, .int .u16 a1, .int .u32 a2, .slice a3 len3 cap3] w fun e w' => e = .returned (.bool true) ∧ Below w.heap.size w w' := by
  obtain ⟨lq, hl, hb, _⟩ := bytes_row h3
  simp [Lit.wf, IntKind.min, IntKind.max, IntKind.signed, IntKind.bits] at h1 h2
  obtain ⟨n1, rfl⟩ := Int.eq_ofNat_of_zero_le h1.1
  obtain ⟨n2, rfl⟩ := Int.eq_ofNat_of_zero_le h2.1
  have hs : (⟨a0.data.toList.toArray⟩ : ByteArray) = a0 := by simp
  have := seals0 a0.data.toList n1 n2 (.slice a3 len3 cap3) lq w (by rw [Array.length_toList]; exact h0) (by omega) (by omega) hb
  rwa [hs] at this
end Go.Proofs.Ytoojnpafcdaflaa
