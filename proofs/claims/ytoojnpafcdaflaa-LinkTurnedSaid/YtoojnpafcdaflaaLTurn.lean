/- columbarylaw17.LinkTurned: the walk. -/
import Derived.Test.YtoojnpafcdaflaaLdt
import Derived.Test.YtoojnpafcdaflaaLnkA
import Derived.ChangeSlices
namespace Go.Proofs.Ytoojnpafcdaflaa
open Go Go.RowKit Go.WideShapes
set_option linter.unusedVariables false
set_option linter.unusedSimpArgs false
set_option maxRecDepth 100000

theorem awk17 (w : World) : Calls Try.prog 42 #[] w fun e w' => e = .returned (.bool true) ∧ Only (fun _ => False) w w' :=
  (awake_true w).mono fun e w' ⟨h1, h2⟩ => ⟨h1, Only.ofBelow h2 _⟩
theorem textsAt_row {w : World} {G : Nat → Prop} {b : Nat} : ∀ (ks : List (List UInt8)) (off : Nat), w.rangeAt b off (ks.map strV) → RowAt 1 TextP w G ks b off
  | [], _, _ => trivial
  | k :: ks, off, h => ⟨⟨[strV k], rfl, fun j u hu => by
      cases j with
      | zero => simp at hu; subst hu; exact h 0 _ rfl
      | succ j => simp at hu, rfl⟩, textsAt_row ks (off + 1) (fun j u hu => by
      have := h (j + 1) u (by simpa using hu)
      rwa [show off + (j + 1) = off + 1 + j from by omega] at this)⟩
theorem textsAt_list {w : World} {a : Option Addr} {ks : List (List UInt8)} (h : TextsAt w a ks) : ListAt 1 TextP w (fun q => q < w.heap.size) a ks := fun hp => by
  obtain ⟨b, off, e, hb, hr⟩ := h hp
  exact ⟨b, off, e, hb, hb, textsAt_row ks off hr⟩
theorem texts_of_Trod {H : Type} {enc : TypeId × Value → H} {w : World} {v : Value} {d : DataW H} {p : List MemPlace} {b0 : Nat} (h : DataW.Trod enc Try.prog w 0 (fun _ => true) true 32 v d p) (g : Value.okWide Try.prog w .any b0 32 v) :
    ∃ (ks : List (List UInt8)) (a : Option Addr) (c : Nat), v = .slice a ks.length c ∧ ks.length ≤ c ∧ c ≤ maxLen ∧ TextsAt w a ks ∧ ∀ s ∈ ks, s.length ≤ maxLen := by
  obtain ⟨a0, len0, cap0, rfl⟩ := okWide_slice Try.underlying32 g
  obtain ⟨fuel, hf⟩ := h
  obtain ⟨ks, a, c, e, h1, h2, h3, h4⟩ := texts_of_slice hf
  simp [Value.cells] at e
  obtain ⟨rfl, rfl, rfl⟩ := e
  exact ⟨ks, a0, cap0, rfl, h1, h2, h3, h4⟩
theorem encF_texts {ks : List (List UInt8)} {m : Nat} (h : ∀ s ∈ ks, s.length ≤ m) (hm : m ≤ 1000000) : (encF encT ks).length ≤ ks.length * (m + 10) := by
  induction ks with
  | nil => simp [encF]
  | cons k ks ih =>
    have h1 := h k List.mem_cons_self
    have h2 := ih (fun s hs => h s (List.mem_cons_of_mem _ hs))
    have h3 := encU_len10 (n := k.length) (by omega)
    simp only [encF, List.length_append, List.length_cons]
    rw [Nat.add_mul, Nat.one_mul]
    have : (encT k).length ≤ m + 10 := by unfold encT; rw [List.length_append]; omega
    omega
set_option maxHeartbeats 16000000 in
theorem turn0 (c0 d0 : Nat) (ks : List (List UInt8)) (a : Option Addr) (ck : Nat) (at0 pt : Nat) (w : World) (hc0 : c0 < 256) (hd0 : d0 < 18446744073709551616) (hkf : Fits ks.length ck) (hkt : TextsAt w a ks) (hkb : ∀ s ∈ ks, s.length ≤ maxLen) (hat : at0 < 65536) (hpt : pt < 4294967296) :
    Calls Try.prog 13 #[.int .u8 c0, .int .u64 d0, .slice a ks.length ck, .int .u16 at0, .int .u32 pt] w fun e w' => e = .returned (.bool true) ∧ Below w.heap.size w w' := by
  have hkl := textsAt_list hkt
  obtain ⟨sb, hsb⟩ : ∃ b, b = shortB ks 40 200 := ⟨_, rfl⟩
  have hsh := fun w' (ho : Only (fun _ => False) w w') => short_any ks a ck 40 200 _ w' (hkl.only textP_keeps ho (fun _ _ h => h)) (by have := hkf.1; have := hkf.2; unfold maxLen at *; omega) (by decide) (by decide) (fun s hs => by have := hkb s hs; unfold maxLen at this; omega)
  rw [← hsb] at hsh
  have HSH := Lib.hid hsh; have HSB := Lib.hid hsb; have HKL := Lib.hid hkl; have HKF := Lib.hid hkf; clear hsh hsb hkl hkf hkt hkb
  have b1 : (0 : Int) ≤ (c0 : Int) := by omega
  have b2 : (c0 : Int) ≤ 255 := by omega
  have b3 : (0 : Int) ≤ (d0 : Int) := by omega
  have b4 : (d0 : Int) ≤ 18446744073709551615 := by omega
  go_enter Try.func13, Try.ntmps13
  go_wp2_with fail
  refine (awk17 _).mono ?_
  rintro e w1 ⟨rfl, o1⟩
  have O1 := Lib.hid o1; clear o1
  go_wp2_with fail
  refine (HSH.out _ O1.out).mono ?_
  rintro e w1' ⟨rfl, rfl⟩
  cases sb with
  | false =>
    go_wp2_with fail
    refine (awk17 _).mono ?_
    rintro e w9 ⟨rfl, o9⟩
    have O9 := Lib.hid o9; clear o9
    go_wp2_with fail
    go_ret
    exact ⟨rfl, (O1.out.trans O9.out).still⟩
  | true =>
  obtain ⟨hs1, hs2⟩ := shortB_iff.1 HSB.out.symm
  obtain ⟨cc, hcc⟩ : ∃ cc : Nat, cc = c0 % 5 := ⟨_, rfl⟩
  obtain ⟨dd, hdd⟩ : ∃ dd : Nat, dd = d0 / 16 := ⟨_, rfl⟩
  have hct : Int.tmod (c0 : Int) 5 = (cc : Int) := by rw [hcc, Int.tmod_eq_emod_of_nonneg (by omega)]; omega
  have hdt : (d0 : Int) / 16 = (dd : Int) := by omega
  have hcc4 : cc ≤ 4 := by omega
  have hdd4 : dd ≤ 1152921504606846976 := by omega
  have htell : okTell ⟨cc, dd, [], 0, 0, [], ks⟩ := ⟨hcc4, hdd4, by simp, (fun s hs => by cases hs), (show (0 : Nat) ≤ 1152921504606846976 by decide), (show (0 : Nat) ≤ 1152921504606846976 by decide), by simp, (fun x hx => by cases hx), hs2, hs1⟩
  have hback := tell_back htell
  have hgl : (encF encT ks).length ≤ 8400 := by have := encF_texts hs1 (by decide); have : ks.length * 210 ≤ 40 * 210 := Nat.mul_le_mul_right _ hs2; omega
  have hel : (encTell ⟨cc, dd, [], 0, 0, [], ks⟩).length ≤ 9000 := by
    have e1 := encU_len10 (n := 2) (by decide); have e2 := encU_len10 (n := cc) (by omega); have e3 := encU_len10 (n := dd) (by omega); have e4 := encU_len10 (n := 0) (by decide); have e5 := encU_len10 (n := ks.length) (by omega)
    unfold encTell encQ
    simp only [List.length_append, List.length_nil, encF]
    omega
  have hTA : TellAt w1 (fun q => q < w.heap.size) ⟨cc, dd, [], 0, 0, [], ks⟩ [.int .i64 cc, .int .u64 dd, .slice none 0 0, .int .u64 0, .int .u64 0, .slice none 0 0, .slice a ks.length ck] :=
    ⟨none, 0, none, 0, a, ck, rfl, by show cc ≤ _; omega, by show dd < _; omega, (show (0 : Nat) < 18446744073709551616 by decide), (show (0 : Nat) < 18446744073709551616 by decide), ⟨Nat.le_refl _, by decide⟩, ⟨Nat.le_refl _, by decide⟩, HKF.out, ListAt.nil, ListAt.nil, HKL.out.only textP_keeps O1.out (fun _ _ h => h)⟩
  have henc := wEncTell ⟨cc, dd, [], 0, 0, [], ks⟩ (fun q => q < w.heap.size) w1 _ hTA (fun q hq => Nat.lt_of_lt_of_le hq O1.out.size) (fun x hx => by cases hx) ⟨by simp, by simp, by show ks.length ≤ _; omega⟩ (by omega)
  obtain ⟨L0, hL0⟩ : ∃ L, L = sealed (encTell ⟨cc, dd, [], 0, 0, [], ks⟩) := ⟨_, rfl⟩
  have hlen := sealed_len (encTell ⟨cc, dd, [], 0, 0, [], ks⟩)
  rw [← hL0] at henc hlen
  have hn0 : 4 ≤ L0.length := by omega
  have hn1 : L0.length ≤ 9004 := by omega
  have hc40 : (0 : Int) ≤ (cc : Int) := by omega
  have hd40 : (0 : Int) ≤ (dd : Int) := by omega
  have HENC := Lib.hid henc; have HBACK := Lib.hid hback; have HL0 := Lib.hid hL0; have HN0 := Lib.hid hn0; have HN1 := Lib.hid hn1
  clear henc hback hL0 hn0 hn1 hlen hs1 hs2 hcc hdd htell hgl hel hTA
  go_wp2_with fail
  refine HENC.out.mono ?_
  rintro e w5 ⟨v5, rfl, h5, o5⟩
  obtain ⟨g, c, rfl, hg1, _, _, _⟩ := own8_facts h5 (by have := HN0.out; omega)
  have H5 := Lib.hid (h5.mono O1.out.size); have O5 := Lib.hid (O1.out.trans o5); have HG2 := Lib.hid (Nat.le_trans O1.out.size hg1); clear h5 o5 hg1
  have hcv := H5.out.bytes.conv
  obtain ⟨n, hn⟩ : ∃ n, n = L0.length := ⟨_, rfl⟩
  have hn4 : (4 : Int) ≤ (n : Int) := by have := HN0.out; omega
  have hn5 : (n : Int) ≤ 9004 := by have := HN1.out; omega
  have h5n := H5.out
  have HLN0 := Lib.hid hn.symm
  rw [← hn] at h5n hcv ⊢
  have H5 := Lib.hid h5n; clear h5n
  have hnz : ¬ (8 * (n : Int) = 0) := by omega
  have hat0 : (0 : Int) ≤ (at0 : Int) := by omega
  have hat1 : (at0 : Int) ≤ 65535 := by omega
  obtain ⟨k, hk⟩ : ∃ k, k = at0 % (8 * n) := ⟨_, rfl⟩
  have hkt : Int.tmod (at0 : Int) (8 * (n : Int)) = (k : Int) := by
    rw [hk]
    rw [show (8 * (n : Int)) = ((8 * n : Nat) : Int) from by omega, Int.natCast_emod]
    exact Int.tmod_eq_emod_of_nonneg (by omega)
  have hkn : k < 8 * n := by rw [hk]; exact Nat.mod_lt _ (by omega)
  have HN := Lib.hid hn; have HK := Lib.hid hk; have HKN := Lib.hid hkn; clear hk hkn hn
  go_wp2_with fail
  clear hcv
  go_loopw [14] (fun i wr => ∃ (i' : Nat) (L : List UInt8), i = .int .i64 i' ∧ i' ≤ 32 ∧ Hid (L.length = n) ∧ Hid (Own8 wr w.heap.size (.slice (some ⟨g, 0, none⟩) n c) L) ∧ Hid (num L0 ^^^ num L = 2 ^ k * (pt % 2 ^ i')) ∧ Hid (k + i' ≤ 8 * n) ∧ Hid (Only (fun q => q = g) w5 wr)) (fun i _ => 32 - (intOf i).toNat)
  case atStart => exact ⟨0, L0, rfl, by omega, HLN0, H5, Lib.hid (by simp [Nat.mod_one]), Lib.hid (by have := HKN.out; omega), Lib.hid (Only.refl _ _)⟩
  case round =>
    obtain ⟨i', L, rfl, hi', HLL, HOW, HNUM, HKI, HO⟩ := hrel
    by_cases hc : i' < 32 ∧ k + i' < 8 * n
    · obtain ⟨hc1, hc2⟩ := hc
      obtain ⟨q, hq⟩ : ∃ q, q = k + i' := ⟨_, rfl⟩
      obtain ⟨j, hj⟩ : ∃ j, j = q / 8 := ⟨_, rfl⟩
      obtain ⟨t, ht⟩ : ∃ t, t = q % 8 := ⟨_, rfl⟩
      have hqi : (k : Int) + (i' : Int) = (q : Int) := by omega
      have hqj : Int.tdiv (q : Int) 8 = (j : Int) := by rw [Int.tdiv_eq_ediv_of_nonneg (by omega)]; omega
      have hqt : Int.tmod (q : Int) 8 = (t : Int) := by rw [Int.tmod_eq_emod_of_nonneg (by omega)]; omega
      have hqj2 : (q : Int) / 8 = (j : Int) := by omega
      have hqt2 : (q : Int) % 8 = (t : Int) := by omega
      have t1 : decide ((i' : Int) < 32) = true := by simp; omega
      have t2 : decide ((q : Int) < 8 * (n : Int)) = true := by simp; omega
      have t3 : decide (i' < 32) = true := by simpa using hc1
      have hk0 : (0 : Int) ≤ (k : Int) := by omega
      have hk1 : (k : Int) ≤ 80000 := by omega
      have hi0 : (0 : Int) ≤ (i' : Int) := by omega
      have hi1 : (i' : Int) ≤ 31 := by omega
      have hq0 : (0 : Int) ≤ (q : Int) := by omega
      have hq1 : (q : Int) ≤ 80031 := by omega
      have hj0 : (0 : Int) ≤ (j : Int) := by omega
      have hj1 : (j : Int) < (n : Int) := by omega
      have ht0 : (0 : Int) ≤ (t : Int) := by omega
      have ht1' : (t : Int) ≤ 7 := by omega
      have hjn : j < L.length := by rw [HLL.out]; omega
      have hand : bits BinOp.and IntKind.u32 ((pt : Int) / 2 ^ i') 1 = ((pt / 2 ^ i' % 2 : Nat) : Int) := by
        have h := and1 (pt / 2 ^ i') (Nat.lt_of_le_of_lt (Nat.div_le_self _ _) hpt)
        rw [← h]; congr 1
      have hlow := low_succ pt i'
      have HKI1 : Hid (k + (i' + 1) ≤ 8 * n) := Lib.hid (by omega)
      have HQ8 : Hid (q = 8 * j + t ∧ q = k + i' ∧ t < 8) := Lib.hid ⟨by omega, by omega, by omega⟩
      have HLOW := Lib.hid hlow; have HAND := Lib.hid hand; have HJN := Lib.hid hjn; clear hlow hand hq hj ht hjn
      by_cases hbit : pt / 2 ^ i' % 2 = 1
      · have hb1 : (bits BinOp.and IntKind.u32 ((pt : Int) / 2 ^ i') 1 == 1) = true := by rw [HAND.out, hbit]; rfl
        obtain ⟨g', c', e', hB, hglt, hfz, hcell⟩ := own8_facts (show Own8 wr w.heap.size (.slice (some ⟨g, 0, none⟩) n c) L from HOW.out) (by rw [HLL.out]; have := HKN.out; omega)
        injection e' with e1 e2 e3
        injection e1 with e1
        injection e1 with e1
        subst e1
        have HBIT := Lib.hid hbit; have HFZ := Lib.hid hfz; have HCE := Lib.hid (hcell j HJN.out); clear hbit hfz hcell e2 e3
        go_wp2_with fail
        refine wp_region_steps 19 (by kernel_rfl) rfl (by kernel_rfl) [some 60, some 61, some 62, some 63, some 64, some 65, some 66, some 67, some 68, some 69, some 70, some 71, some 72, some 73, some 74, some 75, some 76, some 77, some 78] rfl rfl (fun _ => False) [(fun v _ => v = (.slice (some ⟨g, 0, none⟩) n c)), (fun v _ => v = (.int .i64 k)), (fun v _ => v = (.int .i64 i')), (fun v _ => v = (.int .i64 q)), (fun v _ => v = (.int .i64 j)), (fun v _ => v = (.slice (some ⟨g, 0, none⟩) n c)), (fun v _ => v = (.int .i64 k)), (fun v _ => v = (.int .i64 i')), (fun v _ => v = (.int .i64 q)), (fun v _ => v = (.int .i64 j)), (fun v _ => v = (.pointer (some ⟨g, j, none⟩))), (fun v _ => v = (.int .u8 ((L[j].toNat : Nat) : Int))), (fun v _ => v = (.int .i64 k)), (fun v _ => v = (.int .i64 i')), (fun v _ => v = (.int .i64 q)), (fun v _ => v = (.int .i64 t)), (fun v _ => v = (.int .u8 ((2 ^ t : Nat) : Int))), (fun v _ => v = (.int .u8 ((L[j].toNat ^^^ 2 ^ t : Nat) : Int))), (fun v _ => v = (.pointer (some ⟨g, j, none⟩)))] rfl ⟨?_, ?_, ?_, ?_, ?_, ?_, ?_, ?_, ?_, ?_, ?_, ?_, ?_, ?_, ?_, ?_, ?_, ?_, ?_, trivial⟩ _ rfl ⟨?_, ?_, ?_, ?_, ?_, ?_, ?_, ?_, ?_, ?_, ?_, ?_, ?_, ?_, ?_, ?_, ?_, ?_, ?_, trivial⟩ ?_
        · exact Stable.is _ _
        · exact Stable.is _ _
        · exact Stable.is _ _
        · exact Stable.is _ _
        · exact Stable.is _ _
        · exact Stable.is _ _
        · exact Stable.is _ _
        · exact Stable.is _ _
        · exact Stable.is _ _
        · exact Stable.is _ _
        · exact Stable.is _ _
        · exact Stable.is _ _
        · exact Stable.is _ _
        · exact Stable.is _ _
        · exact Stable.is _ _
        · exact Stable.is _ _
        · exact Stable.is _ _
        · exact Stable.is _ _
        · exact Stable.is _ _
        · intro x wx ox hN TT HTT
          clear hN
          unfold StepTo
          simp only [putAll, Act.put, List.setIfInBounds_toArray, List.set_cons_succ, List.set_cons_zero]
          go_wp2_with fail
          exact ⟨rfl, _, rfl, HTT.out _ _ (rfl) (Only.refl _ _)⟩
        · intro x wx ox hN TT HTT
          clear hN
          unfold StepTo
          simp only [putAll, Act.put, List.setIfInBounds_toArray, List.set_cons_succ, List.set_cons_zero]
          go_wp2_with fail
          exact ⟨rfl, _, rfl, HTT.out _ _ (rfl) (Only.refl _ _)⟩
        · intro x wx ox hN TT HTT
          clear hN
          unfold StepTo
          simp only [putAll, Act.put, List.setIfInBounds_toArray, List.set_cons_succ, List.set_cons_zero]
          go_wp2_with fail
          exact ⟨rfl, _, rfl, HTT.out _ _ (rfl) (Only.refl _ _)⟩
        · intro x wx ox hN TT HTT
          have r61 : x 1 = (.int .i64 k) := hN.1 rfl
          have r62 : x 2 = (.int .i64 i') := hN.2.1 rfl
          clear hN
          unfold StepTo
          simp only [putAll, Act.put, List.setIfInBounds_toArray, List.set_cons_succ, List.set_cons_zero, r61, r62]
          clear r61 r62
          go_wp2_with fail
          exact ⟨rfl, _, rfl, HTT.out _ _ (rfl) (Only.refl _ _)⟩
        · intro x wx ox hN TT HTT
          have r63 : x 3 = (.int .i64 q) := hN.1 rfl
          clear hN
          unfold StepTo
          simp only [putAll, Act.put, List.setIfInBounds_toArray, List.set_cons_succ, List.set_cons_zero, r63]
          clear r63
          go_wp2_with fail
          exact ⟨rfl, _, rfl, HTT.out _ _ (rfl) (Only.refl _ _)⟩
        · intro x wx ox hN TT HTT
          clear hN
          unfold StepTo
          simp only [putAll, Act.put, List.setIfInBounds_toArray, List.set_cons_succ, List.set_cons_zero]
          go_wp2_with fail
          exact ⟨rfl, _, rfl, HTT.out _ _ (rfl) (Only.refl _ _)⟩
        · intro x wx ox hN TT HTT
          clear hN
          unfold StepTo
          simp only [putAll, Act.put, List.setIfInBounds_toArray, List.set_cons_succ, List.set_cons_zero]
          go_wp2_with fail
          exact ⟨rfl, _, rfl, HTT.out _ _ (rfl) (Only.refl _ _)⟩
        · intro x wx ox hN TT HTT
          clear hN
          unfold StepTo
          simp only [putAll, Act.put, List.setIfInBounds_toArray, List.set_cons_succ, List.set_cons_zero]
          go_wp2_with fail
          exact ⟨rfl, _, rfl, HTT.out _ _ (rfl) (Only.refl _ _)⟩
        · intro x wx ox hN TT HTT
          have r66 : x 6 = (.int .i64 k) := hN.1 rfl
          have r67 : x 7 = (.int .i64 i') := hN.2.1 rfl
          clear hN
          unfold StepTo
          simp only [putAll, Act.put, List.setIfInBounds_toArray, List.set_cons_succ, List.set_cons_zero, r66, r67]
          clear r66 r67
          go_wp2_with fail
          exact ⟨rfl, _, rfl, HTT.out _ _ (rfl) (Only.refl _ _)⟩
        · intro x wx ox hN TT HTT
          have r68 : x 8 = (.int .i64 q) := hN.1 rfl
          clear hN
          unfold StepTo
          simp only [putAll, Act.put, List.setIfInBounds_toArray, List.set_cons_succ, List.set_cons_zero, r68]
          clear r68
          go_wp2_with fail
          exact ⟨rfl, _, rfl, HTT.out _ _ (rfl) (Only.refl _ _)⟩
        · intro x wx ox hN TT HTT
          have r65 : x 5 = (.slice (some ⟨g, 0, none⟩) n c) := hN.1 rfl
          have r69 : x 9 = (.int .i64 j) := hN.2.1 rfl
          clear hN
          unfold StepTo
          simp only [putAll, Act.put, List.setIfInBounds_toArray, List.set_cons_succ, List.set_cons_zero, r65, r69]
          clear r65 r69
          go_wp2_with fail
          exact ⟨rfl, _, rfl, HTT.out _ _ (rfl) (Only.refl _ _)⟩
        · intro x wx ox hN TT HTT
          have r70 : x 10 = (.pointer (some ⟨g, j, none⟩)) := hN.1 rfl
          clear hN
          unfold StepTo
          simp only [putAll, Act.put, List.setIfInBounds_toArray, List.set_cons_succ, List.set_cons_zero, r70]
          clear r70
          have hce := (cell_only (((Only.refl (fun _ => False) wr).drew).trans ox) (a := ⟨g, j, none⟩) hglt (fun h => h)).trans HCE.out
          go_wp2_with fail
          exact ⟨rfl, _, rfl, HTT.out _ _ (rfl) (Only.refl _ _)⟩
        · intro x wx ox hN TT HTT
          clear hN
          unfold StepTo
          simp only [putAll, Act.put, List.setIfInBounds_toArray, List.set_cons_succ, List.set_cons_zero]
          go_wp2_with fail
          exact ⟨rfl, _, rfl, HTT.out _ _ (rfl) (Only.refl _ _)⟩
        · intro x wx ox hN TT HTT
          clear hN
          unfold StepTo
          simp only [putAll, Act.put, List.setIfInBounds_toArray, List.set_cons_succ, List.set_cons_zero]
          go_wp2_with fail
          exact ⟨rfl, _, rfl, HTT.out _ _ (rfl) (Only.refl _ _)⟩
        · intro x wx ox hN TT HTT
          have r72 : x 12 = (.int .i64 k) := hN.1 rfl
          have r73 : x 13 = (.int .i64 i') := hN.2.1 rfl
          clear hN
          unfold StepTo
          simp only [putAll, Act.put, List.setIfInBounds_toArray, List.set_cons_succ, List.set_cons_zero, r72, r73]
          clear r72 r73
          go_wp2_with fail
          exact ⟨rfl, _, rfl, HTT.out _ _ (rfl) (Only.refl _ _)⟩
        · intro x wx ox hN TT HTT
          have r74 : x 14 = (.int .i64 q) := hN.1 rfl
          clear hN
          unfold StepTo
          simp only [putAll, Act.put, List.setIfInBounds_toArray, List.set_cons_succ, List.set_cons_zero, r74]
          clear r74
          go_wp2_with fail
          exact ⟨rfl, _, rfl, HTT.out _ _ (rfl) (Only.refl _ _)⟩
        · intro x wx ox hN TT HTT
          have r75 : x 15 = (.int .i64 t) := hN.1 rfl
          clear hN
          unfold StepTo
          simp only [putAll, Act.put, List.setIfInBounds_toArray, List.set_cons_succ, List.set_cons_zero, r75]
          clear r75
          go_wp2_with fail
          exact ⟨rfl, _, rfl, HTT.out _ _ (congrArg (Value.int IntKind.u8) (pow_mod_byte HQ8.out.2.2)) (Only.refl _ _)⟩
        · intro x wx ox hN TT HTT
          have r71 : x 11 = (.int .u8 ((L[j].toNat : Nat) : Int)) := hN.1 rfl
          have r76 : x 16 = (.int .u8 ((2 ^ t : Nat) : Int)) := hN.2.1 rfl
          clear hN
          unfold StepTo
          simp only [putAll, Act.put, List.setIfInBounds_toArray, List.set_cons_succ, List.set_cons_zero, r71, r76]
          clear r71 r76
          go_wp2_with fail
          exact ⟨rfl, _, rfl, HTT.out _ _ (congrArg (Value.int IntKind.u8) (x8p (a := L[j].toNat) (t := t) L[j].toNat_lt HQ8.out.2.2)) (Only.refl _ _)⟩
        · intro x wx ox hN TT HTT
          have r60 : x 0 = (.slice (some ⟨g, 0, none⟩) n c) := hN.1 rfl
          have r64 : x 4 = (.int .i64 j) := hN.2.1 rfl
          have r61 : x 1 = (.int .i64 k) := hN.2.2.2.1 rfl
          have r62 : x 2 = (.int .i64 i') := hN.2.2.2.2.1 rfl
          have r63 : x 3 = (.int .i64 q) := hN.2.2.2.2.2.1 rfl
          have r65 : x 5 = (.slice (some ⟨g, 0, none⟩) n c) := hN.2.2.2.2.2.2.2.1 rfl
          have r66 : x 6 = (.int .i64 k) := hN.2.2.2.2.2.2.2.2.1 rfl
          have r67 : x 7 = (.int .i64 i') := hN.2.2.2.2.2.2.2.2.2.1 rfl
          have r68 : x 8 = (.int .i64 q) := hN.2.2.2.2.2.2.2.2.2.2.1 rfl
          have r69 : x 9 = (.int .i64 j) := hN.2.2.2.2.2.2.2.2.2.2.2.1 rfl
          have r70 : x 10 = (.pointer (some ⟨g, j, none⟩)) := hN.2.2.2.2.2.2.2.2.2.2.2.2.1 rfl
          have r71 : x 11 = (.int .u8 ((L[j].toNat : Nat) : Int)) := hN.2.2.2.2.2.2.2.2.2.2.2.2.2.1 rfl
          have r72 : x 12 = (.int .i64 k) := hN.2.2.2.2.2.2.2.2.2.2.2.2.2.2.1 rfl
          have r73 : x 13 = (.int .i64 i') := hN.2.2.2.2.2.2.2.2.2.2.2.2.2.2.2.1 rfl
          have r74 : x 14 = (.int .i64 q) := hN.2.2.2.2.2.2.2.2.2.2.2.2.2.2.2.2.1 rfl
          have r75 : x 15 = (.int .i64 t) := hN.2.2.2.2.2.2.2.2.2.2.2.2.2.2.2.2.2.1 rfl
          have r76 : x 16 = (.int .u8 ((2 ^ t : Nat) : Int)) := hN.2.2.2.2.2.2.2.2.2.2.2.2.2.2.2.2.2.2.1 rfl
          have r77 : x 17 = (.int .u8 ((L[j].toNat ^^^ 2 ^ t : Nat) : Int)) := hN.2.2.2.2.2.2.2.2.2.2.2.2.2.2.2.2.2.2.2.1 rfl
          clear hN
          unfold StepTo
          simp only [putAll, Act.put, List.setIfInBounds_toArray, List.set_cons_succ, List.set_cons_zero, r60, r64, r61, r62, r63, r65, r66, r67, r68, r69, r70, r71, r72, r73, r74, r75, r76, r77]
          clear r60 r64 r61 r62 r63 r65 r66 r67 r68 r69 r70 r71 r72 r73 r74 r75 r76 r77
          go_wp2_with fail
          exact ⟨rfl, _, rfl, HTT.out _ _ (rfl) (Only.refl _ _)⟩
        intro xb wxb oxb hN
        have r60 : xb 0 = (.slice (some ⟨g, 0, none⟩) n c) := hN.1
        have r61 : xb 1 = (.int .i64 k) := hN.2.1
        have r62 : xb 2 = (.int .i64 i') := hN.2.2.1
        have r63 : xb 3 = (.int .i64 q) := hN.2.2.2.1
        have r64 : xb 4 = (.int .i64 j) := hN.2.2.2.2.1
        have r65 : xb 5 = (.slice (some ⟨g, 0, none⟩) n c) := hN.2.2.2.2.2.1
        have r66 : xb 6 = (.int .i64 k) := hN.2.2.2.2.2.2.1
        have r67 : xb 7 = (.int .i64 i') := hN.2.2.2.2.2.2.2.1
        have r68 : xb 8 = (.int .i64 q) := hN.2.2.2.2.2.2.2.2.1
        have r69 : xb 9 = (.int .i64 j) := hN.2.2.2.2.2.2.2.2.2.1
        have r70 : xb 10 = (.pointer (some ⟨g, j, none⟩)) := hN.2.2.2.2.2.2.2.2.2.2.1
        have r71 : xb 11 = (.int .u8 ((L[j].toNat : Nat) : Int)) := hN.2.2.2.2.2.2.2.2.2.2.2.1
        have r72 : xb 12 = (.int .i64 k) := hN.2.2.2.2.2.2.2.2.2.2.2.2.1
        have r73 : xb 13 = (.int .i64 i') := hN.2.2.2.2.2.2.2.2.2.2.2.2.2.1
        have r74 : xb 14 = (.int .i64 q) := hN.2.2.2.2.2.2.2.2.2.2.2.2.2.2.1
        have r75 : xb 15 = (.int .i64 t) := hN.2.2.2.2.2.2.2.2.2.2.2.2.2.2.2.1
        have r76 : xb 16 = (.int .u8 ((2 ^ t : Nat) : Int)) := hN.2.2.2.2.2.2.2.2.2.2.2.2.2.2.2.2.1
        have r77 : xb 17 = (.int .u8 ((L[j].toNat ^^^ 2 ^ t : Nat) : Int)) := hN.2.2.2.2.2.2.2.2.2.2.2.2.2.2.2.2.2.1
        have r78 : xb 18 = (.pointer (some ⟨g, j, none⟩)) := hN.2.2.2.2.2.2.2.2.2.2.2.2.2.2.2.2.2.2.1
        clear hN
        simp only [putAll, Act.put, List.setIfInBounds_toArray, List.set_cons_succ, List.set_cons_zero, r60, r61, r62, r63, r64, r65, r66, r67, r68, r69, r70, r71, r72, r73, r74, r75, r76, r77, r78]
        clear r60 r61 r62 r63 r64 r65 r66 r67 r68 r69 r70 r71 r72 r73 r74 r75 r76 r77 r78
        have oo := ((Only.refl (fun _ => False) wr).drew).trans oxb
        obtain ⟨x, hx⟩ := byte_of (xor_byte (a := L[j].toNat) (t := t) L[j].toNat_lt HQ8.out.2.2)
        have hce := (cell_only oo (a := ⟨g, j, none⟩) hglt (fun h => h)).trans HCE.out
        have hfz := (frozen_only oo (a := ⟨g, j, none⟩) hglt (fun h => h)).trans (HFZ.out j)
        have hgl2 := Nat.lt_of_lt_of_le hglt oo.size
        have hset := own8_set (by rw [HLL.out]; exact HOW.out.still oo) HJN.out x
        have hsl : (L.set j x).length = n := by rw [List.length_set]; exact HLL.out
        rw [hsl, hx] at hset
        have ho2 : Only (fun q => q = g) w5 (wxb.setCell ⟨g, j, none⟩ (.int .u8 ((L[j].toNat ^^^ 2 ^ t : Nat) : Int))) := (HO.out.trans' oo (fun _ _ h => h.elim)).setCell (p := ⟨g, j, none⟩) (.inl rfl) _
        have hnx := num_next HNUM.out HJN.out HQ8.out.2.2 hx (by have := HQ8.out; omega) HBIT.out
        have HX := Lib.hid hx; have HSET := Lib.hid hset; have HSL := Lib.hid hsl; have HO2 := Lib.hid ho2; have HNX := Lib.hid hnx; clear hx hset hsl ho2 hnx oo oxb
        go_wp2_with fail
        go_roundw
        case rel => exact ⟨i' + 1, L.set j x, by simp [go_sem], by omega, HSL, HSET, HNX, HKI1, HO2⟩
        case measure => simp [intOf]; omega
      · have hb1 : (bits BinOp.and IntKind.u32 ((pt : Int) / 2 ^ i') 1 == 1) = false := by rw [HAND.out]; exact bit_not hbit
        have hlw := HLOW.out
        rw [if_neg hbit] at hlw
        have HLW := Lib.hid hlw; clear hlw hbit HLOW
        go_wp2_with fail
        go_roundw
        case rel => exact ⟨i' + 1, L, by simp [go_sem], by omega, HLL, HOW, Lib.hid (by rw [HLW.out]; exact HNUM.out), HKI1, HO⟩
        case measure => simp [intOf]; omega
    · have hseal : Sealed L0 := ⟨_, HL0.out⟩
      have hcode := fun c h => turned_code (L := L) (c := c) hseal (by rw [HLL.out]; exact HLN0.out.symm) (by have := HKN.out; rw [HLN0.out]; omega) (low_lt hi') HNUM.out h
      have hbL := HOW.out.bytes
      have hall : Only (fun _ => False) w wr := O5.out.trans' HO.out (fun q hq e => by have := HG2.out; omega)
      have hLl : L.length ≤ 1000000000 := by rw [HLL.out]; have := HN1.out; have := HLN0.out; omega
      have hdc := dcdt_any _ L wr hbL hLl
      have hself : num L = num L0 → L = L0 := fun e => num_inj (by rw [HLL.out, HLN0.out]) e
      have HCODE := Lib.hid hcode; have HBL := Lib.hid hbL; have HALL := Lib.hid hall; have HDC := Lib.hid hdc; clear hseal hcode hbL hall hLl hdc hself
      have hq0 : (0 : Int) ≤ (i' : Int) := by omega
      have hq1 : (i' : Int) ≤ 32 := by omega
      have hk0 : (0 : Int) ≤ (k : Int) := by omega
      have hk1 : (k : Int) ≤ 80000 := by have := HKN.out; omega
      have key : (decide ((i' : Int) < 32) = false ∨ (decide ((i' : Int) < 32) = true ∧ decide ((k : Int) + (i' : Int) < 8 * (n : Int)) = false)) := by
        by_cases h : i' < 32
        · exact .inr ⟨by simp; omega, by simp; omega⟩
        · exact .inl (by simp; omega)
      have HC := Lib.hid hc; clear hc
      go_upto_region 7 with (fail)
      have hend : ∀ e w', Only (fun _ => False) w w' → e = Ending.returned (.bool true) → e = .returned (.bool true) ∧ Below w.heap.size w w' := fun e w' ho he => ⟨he, ho.still⟩
      have HEND := Lib.hid hend; clear hend
      rcases key with key | ⟨key, key2⟩
      all_goals
        go_wp2_with fail
        refine HDC.out.mono ?_
        rintro e w7 ⟨o7, hr7⟩
        have O7 := Lib.hid (HALL.out.trans o7)
        have hb7 := HBL.out.still o7
        rcases hr7 with ⟨cc7, hc7, hc70, rfl⟩ | ⟨m7, hm7, hno7, rfl⟩ | ⟨m7, t7, cs7, hm7, ht7, rfl, hta7⟩
        · rcases HCODE.out _ hc7 with ⟨hp, rfl⟩ | ⟨hp, h0, _⟩
          · have hne : ¬ L = L0 := fun e => by
              have h := HNUM.out
              rw [e, Nat.xor_self] at h
              rcases Nat.mul_eq_zero.1 h.symm with h2 | h2
              · exact absurd h2 (Nat.pos_iff_ne_zero.1 (Nat.two_pow_pos k))
              · exact hp h2
            have hcv := (hb7.still ((Only.refl (fun _ => False) w7).alloc (.cells #[.int .i64 0, .int .u64 0, .slice none 0 0, .int .u64 0, .int .u64 0, .slice none 0 0, .slice none 0 0] 83))).conv
            have t1 : (L == L0) = false := by simpa using hne
            have ofin := O7.out.trans ((Only.refl (fun _ => False) w7).alloc (.cells #[.int .i64 0, .int .u64 0, .slice none 0 0, .int .u64 0, .int .u64 0, .slice none 0 0, .slice none 0 0] 83))
            have OF := Lib.hid ofin; clear ofin hne hp hc7 hc70 o7 hb7
            go_wp2_with fail
            go_ret
            exact HEND.out _ _ OF.out rfl
          · exact absurd h0 hc70
        · have hcz := HCODE.out 0 (.inr (.inr ⟨⟨m7, hm7⟩, rfl⟩))
          rcases hcz with ⟨_, h⟩ | ⟨_, _, hLL0⟩
          · cases h
          · have := sealed_inj (hm7.symm.trans (hLL0.trans HL0.out))
            subst this
            exact absurd HBACK.out (hno7 _)
        · have hcz := HCODE.out 0 (.inr (.inr ⟨⟨m7, hm7⟩, rfl⟩))
          rcases hcz with ⟨_, h⟩ | ⟨_, _, hLL0⟩
          · cases h
          · obtain ⟨ak7, ck7, ax7, cx7, ag7, cg7, hcs, _⟩ := hta7
            subst hcs
            have al := (Only.refl (fun _ => False) w7).alloc (.cells #[.int .i64 t7.c, .int .u64 t7.done, .slice ak7 t7.ks.length ck7, .int .u64 t7.since, .int .u64 t7.ver, .slice ax7 t7.xs.length cx7, .slice ag7 t7.gs.length cg7] 83)
            have hcv := (hb7.still al).conv
            have OF := Lib.hid (O7.out.trans al)
            subst hLL0
            clear hb7 o7 al hm7 ht7
            go_wp2_with fail
            go_ret
            exact HEND.out _ _ OF.out rfl
theorem turn_walk (a0 a1 : Int) (v2 : Value) (a3 a4 : Int) (w : World) {H : Type} {enc : TypeId × Value → H} {d2 : DataW H} {p2 : List MemPlace} {b2 : Nat} (h0 : (Lit.int .u8 a0).wf = true) (h1 : (Lit.int .u64 a1).wf = true)
    (h2 : DataW.Trod enc Try.prog w 0 (fun _ => true) true 32 v2 d2 p2) (g2 : Value.okWide Try.prog w .any b2 32 v2) (h3 : (Lit.int .u16 a3).wf = true) (h4 : (Lit.int .u32 a4).wf = true) :
    Calls Try.prog 13 #[.int .u8 a0, .int .u64 a1, v2, .int .u16 a3, .int .u32 a4] w fun e w' => e = .returned (.bool true) ∧ Below w.heap.size w w' := by
  obtain ⟨ks, a, c, rfl, q1, q2, q3, q4⟩ := texts_of_Trod h2 g2
  simp [Lit.wf, IntKind.min, IntKind.max, IntKind.signed, IntKind.bits] at h0 h1 h3 h4
  obtain ⟨n0, rfl⟩ := Int.eq_ofNat_of_zero_le h0.1
  obtain ⟨n1, rfl⟩ := Int.eq_ofNat_of_zero_le h1.1
  obtain ⟨n3, rfl⟩ := Int.eq_ofNat_of_zero_le h3.1
  obtain ⟨n4, rfl⟩ := Int.eq_ofNat_of_zero_le h4.1
  exact turn0 n0 n1 ks a c n3 n4 w (by omega) (by omega) ⟨q1, q2⟩ q3 q4 (by omega) (by omega)
end Go.Proofs.Ytoojnpafcdaflaa
