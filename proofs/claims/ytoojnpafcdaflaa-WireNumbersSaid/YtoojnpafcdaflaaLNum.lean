/- columbarylaw03.WireNumbers: the walk. -/
import Derived.Test.YtoojnpafcdaflaaAwk
import Derived.Test.YtoojnpafcdaflaaRdx
namespace Go.Proofs.Ytoojnpafcdaflaa
open Go Go.RowKit
set_option linter.unusedVariables false
set_option linter.unusedSimpArgs false

theorem decU_enc {most m : Nat} (r : List UInt8) (h64 : m < 18446744073709551616) (hle : m ≤ most) : decU most (encU m ++ r) = some (m, r) := by
  have := decGo_enc most 0 m 0 r (by decide) (by simpa using h64) (fun h => absurd h (by decide)) (by simpa using hle)
  simpa [decU] using this
theorem decGo_over (most : Nat) : ∀ (i m acc : Nat) (r : List UInt8), i ≤ 9 → m * 128 ^ i < 18446744073709551616 → (0 < i → 0 < m) → most < acc + m * 128 ^ i → decGo most i acc (encU m ++ r) = none := by
  intro i m
  induction m using Nat.strongRecOn generalizing i with
  | _ m ih =>
    intro acc r hi hm h0 hle
    have h9 : i = 9 → m ≤ 1 := by
      intro h; subst h
      have : (128 : Nat) ^ 9 = 9223372036854775808 := by decide
      rw [this] at hm; omega
    have hb : ∀ n : Nat, n < 256 → (UInt8.ofNat n).toNat = n := by intro n hn; simp; omega
    by_cases h : m < 128
    · rw [encU_small h, List.singleton_append]
      simp only [decGo]
      rw [hb m (by omega), if_neg (by omega), if_pos h, if_pos (by omega)]
    · have hi9 : i < 9 := by
        rcases Nat.lt_or_ge i 9 with h1 | h1
        · exact h1
        · have := h9 (by omega); omega
      rw [encU_big h, List.cons_append]
      simp only [decGo]
      rw [hb _ (by omega), if_neg (by omega), if_neg (by omega)]
      have e1 : (m % 128 + 128) % 128 = m % 128 := by omega
      have e2 : acc + m % 128 * 128 ^ i + m / 128 * 128 ^ (i + 1) = acc + m * 128 ^ i := by
        rw [Nat.pow_succ, Nat.add_assoc, ← Nat.mul_assoc, Nat.mul_right_comm, ← Nat.add_mul]
        congr 2
        omega
      rw [e1]
      exact ih (m / 128) (by omega) (i + 1) (acc + m % 128 * 128 ^ i) r (by omega) (by
        have : m / 128 * 128 ^ (i + 1) ≤ m * 128 ^ i := by
          rw [Nat.pow_succ, ← Nat.mul_assoc, Nat.mul_right_comm]
          exact Nat.mul_le_mul_right _ (Nat.div_mul_le_self m 128)
        omega) (fun _ => by omega) (by rw [e2]; exact hle)
theorem decU_over {most m : Nat} (r : List UInt8) (h64 : m < 18446744073709551616) (hle : most < m) : decU most (encU m ++ r) = none := by
  have := decGo_over most 0 m 0 r (by decide) (by simpa using h64) (fun h => absurd h (by decide)) (by simpa using hle)
  simpa [decU] using this
theorem decT_enc {most : Nat} (s : List UInt8) (h64 : s.length < 18446744073709551616) (hle : s.length ≤ most) : decT most (encT s) = some (s, []) := by
  unfold decT encT
  rw [decU_enc s h64 hle]
  simp
theorem decT_over {most : Nat} (s : List UInt8) (h64 : s.length < 18446744073709551616) (hle : most < s.length) : decT most (encT s) = none := by
  unfold decT encT
  rw [decU_over s h64 hle]
theorem decI_enc (i : Int) (r : List UInt8) (h0 : -9223372036854775808 ≤ i) (h1 : i ≤ 9223372036854775807) : decI (encU (zig i) ++ r) = some (i, r) := by
  unfold decI
  have := zig_lt h0 h1
  rw [decU_enc r this (by omega)]
  simp [unzig_zig]

set_option maxRecDepth 100000 in
set_option maxHeartbeats 4000000 in
theorem numbers0 (n : Nat) (i : Int) (s : List UInt8) (most : Int) (w : World) (hn : n < 18446744073709551616) (hi0 : -9223372036854775808 ≤ i) (hi1 : i ≤ 9223372036854775807) (hs : s.length ≤ 140737488351232) (hm : most ≤ 9223372036854775807) :
    Calls Try.prog 5 #[.int .u64 n, .int .i64 i, .string ⟨s.toArray⟩, .int .i64 most] w fun e w' => e = .returned (.bool true) ∧ Below w.heap.size w w' := by
  have hs0 : (0 : Int) ≤ (s.length : Int) := by omega
  have HN := Lib.hid hn; clear hn
  by_cases hsum : s.length ≤ 3000
  · have t1 : decide ((3000 : Int) < (s.length : Int)) = false := by simp; omega
    have hl1 := encU_len10 (n := n) HN.out
    have hl2 := encU_len10 (n := zig i) (zig_lt hi0 hi1)
    have hl3 : (encT s).length ≤ 4000 := by have := encU_len10 (n := s.length) (by omega); unfold encT; rw [List.length_append]; omega
    go_enter Try.func5, Try.ntmps5
    go_wp2_with fail
    refine (awake_any _).mono ?_
    rintro e w1 ⟨rfl, o1⟩
    have hA := heap_new w1 (.cells #[.slice none 0 0] 26)
    have oA := o1.trans ((Only.refl (fun _ => False) w1).alloc (.cells #[.slice none 0 0] 26))
    have hws := WS.new hA
    have s01 : w.heap.size ≤ w1.heap.size := o1.size
    have HWS := Lib.hid hws; have OA := Lib.hid oA; clear hws hA oA o1
    go_wp2_with fail
    refine (wUint_s n _ _ _ [] _ HWS.out HN.out (by simp)).mono ?_
    rintro e w2 ⟨rfl, h2⟩
    have H2 := Lib.hid h2; clear h2
    go_wp2_with fail
    refine (wInt_s i _ _ _ _ _ H2.out hi0 hi1 (by simp; omega)).mono ?_
    rintro e w3 ⟨rfl, h3⟩
    have H3 := Lib.hid h3; clear h3
    go_wp2_with fail
    refine (wText_s s _ _ _ _ _ H3.out (by omega) (by simp; omega)).mono ?_
    rintro e w4 ⟨rfl, h4⟩
    have hL : ∃ L, L = [] ++ encU n ++ encU (zig i) ++ encT s := ⟨_, rfl⟩
    obtain ⟨L, hL⟩ := hL
    rw [← hL] at h4
    have hLl : L.length ≤ 5000 := by rw [hL]; simp only [List.length_append, List.length_nil]; omega
    have hD := wDone_s _ _ _ _ _ h4 (by omega)
    have o4 := h4.only
    have oW4 : Only (fun _ => False) w w4 := OA.out.trans' o4 (fun k hk e => by omega)
    have HD := Lib.hid hD; have OW4 := Lib.hid oW4; have HL := Lib.hid hL; clear hD h4 o4 oW4 hL
    go_wp2_with fail
    refine HD.out.mono ?_
    rintro e w5 ⟨v5, rfl, h5, o5⟩
    have H5 := Lib.hid h5; have O5 := Lib.hid (OW4.out.trans o5); clear h5 o5
    go_wp2_with fail
    refine (rUint n _ HN.out).mono ?_
    rintro e w6 ⟨v6, rfl, h6, o6⟩
    have H6 := Lib.hid h6; have O6 := Lib.hid o6; clear h6 o6
    go_wp2_with fail
    refine (rInt i _ hi0 hi1).mono ?_
    rintro e w7 ⟨v7, rfl, h7, o7⟩
    have H7 := Lib.hid h7; have O7 := Lib.hid o7; clear h7 o7
    go_wp2_with ((refine wpList_append8 (o := ⟨some 40, _, _, _, _, _⟩) rfl (.tmp 37) (.tmp 39) (by rfl) w5.heap.size _ _ (encU n) (encU (zig i)) (by rfl) (by rfl) (H6.out.still O7.out) H7.out.bytes (by omega) (Nat.le_trans O6.out.size O7.out.size) ?_; intro L8 a8 c8 w8 hL8 h8 g8))
    have o8 : Only (fun _ => False) w5 w8 := g8.out.step (O6.out.trans O7.out) (fun k hk => .inr ((H6.out.still O7.out).ge hk).1)
    have hL8l : L8.length ≤ 20 := by rw [hL8.out, List.length_append]; omega
    have O8 := Lib.hid o8; clear o8
    refine (rText s _ (by omega)).mono ?_
    rintro e w9 ⟨v9, rfl, h9, o9⟩
    have H9 := Lib.hid h9; have O9 := Lib.hid o9; clear h9 o9
    go_wp2_with ((refine wpList_append8 (o := ⟨some 44, _, _, _, _, _⟩) rfl (.tmp 41) (.tmp 43) (by rfl) w5.heap.size _ _ L8 (encT s) (by rfl) (by rfl) (h8.out.still O9.out) H9.out.bytes (by omega) (Nat.le_trans O8.out.size O9.out.size) ?_; intro L10 a10 c10 w10 hL10 h10 g10))
    have o10 : Only (fun _ => False) w5 w10 := g10.out.step (O8.out.trans O9.out) (fun k hk => .inr ((h8.out.still O9.out).ge hk).1)
    have hLe : L10 = L := by rw [hL10.out, hL8.out, HL.out]; simp
    have O10 := Lib.hid o10; have HLE := Lib.hid hLe; clear o10 hLe
    obtain ⟨a5, c5, rfl⟩ := H5.out.form
    have h5' := H5.out.still O10.out
    have HB5 := Lib.hid h5'.bytes; have HG5 := Lib.hid (fun (q : Nat) (hq : (Value.slice a5 L.length c5).ownBlock = some q) => (h5'.ge hq).2); clear h5'
    refine (read_new _ L _ HB5.out (fun _ q hq => HG5.out q hq)).mono ?_
    rintro e w11 ⟨rfl, h11, o11⟩
    have H11 := Lib.hid h11; have O11 := Lib.hid o11; clear h11 o11
    have hdU : decU n L = some (n, encU (zig i) ++ encT s) := by rw [HL.out, List.nil_append, List.append_assoc]; exact decU_enc _ HN.out (Nat.le_refl _)
    have hdI := decI_enc i (encT s) hi0 hi1
    have HDU := Lib.hid hdU; have HDI := Lib.hid hdI; clear hdU hdI
    go_wp2_with fail
    refine (ruint_any _ L n _ H11.out HN.out).mono ?_
    rintro e w12 (⟨x, r, hd, rfl, h12, o12⟩ | ⟨hd, rfl, h12, o12⟩)
    rotate_left
    · rw [HDU.out] at hd; cases hd
    rw [HDU.out] at hd
    injection hd with hd
    injection hd with hd1 hd2
    subst hd1; subst hd2
    have H12 := Lib.hid h12; have O12 := Lib.hid o12; clear h12 o12
    go_wp2_with fail
    refine (rint_any _ _ _ H12.out).mono ?_
    rintro e w13 (⟨x, r, hd, rfl, h13, o13⟩ | ⟨hd, rfl, h13, o13⟩)
    rotate_left
    · rw [HDI.out] at hd; cases hd
    rw [HDI.out] at hd
    injection hd with hd
    injection hd with hd1 hd2
    subst hd1; subst hd2
    have H13 := Lib.hid h13; have O13 := Lib.hid o13; clear h13 o13
    go_wp2_with fail
    have key : ∀ w14, Only (fun k => k = w10.heap.size) w13 w14 → Hid ((convert 24 9 (.slice a5 L.length c5)).run Try.prog w14 = .ok (.string ⟨L.toArray⟩) w14 ∧ (convert 24 9 (.slice a10 L10.length c10)).run Try.prog w14 = .ok (.string ⟨L.toArray⟩) w14 ∧ Only (fun _ => False) w w14) := by
      intro w14 o14
      have oo : Only (fun k => k = w10.heap.size) w10 w14 := (((O11.out.mono (fun _ _ h => h.elim)).trans O12.out).trans O13.out).trans o14
      refine Lib.hid ⟨(HB5.out.only oo (fun _ q hq e => by have := HG5.out q hq; omega)).conv, ?_, (O5.out.trans O10.out).trans' oo (fun k hk e => by have := (O5.out.trans O10.out).size; omega)⟩
      have := (h10.out.bytes.only oo (fun _ q hq e => by have := (h10.out.ge hq).2; omega)).conv
      rw [HLE.out] at this ⊢
      exact this
    have KEY := Lib.hid key; clear key
    by_cases hfit : s.length ≤ (max most 0).toNat
    · have hdT := decT_enc (most := (max most 0).toNat) s (by omega) hfit
      have HDT := Lib.hid hdT; clear hdT
      refine (rtext_any _ _ most _ H13.out hm).mono ?_
      rintro e w14 (⟨x, r, hd, rfl, h14, o14⟩ | ⟨hd, rfl, h14, o14⟩)
      rotate_left
      · rw [HDT.out] at hd; cases hd
      rw [HDT.out] at hd
      injection hd with hd
      injection hd with hd1 hd2
      subst hd1; subst hd2
      obtain ⟨k1, k2, k3⟩ := (KEY.out _ o14).out
      have H14 := Lib.hid h14; have K3 := Lib.hid k3; clear h14 o14 k3
      have hfits : (decide ((s.length : Int) ≤ most) = true) ∨ (decide ((s.length : Int) ≤ most) = false ∧ ((s.length : Int) == 0) = true) := by
        by_cases h : (s.length : Int) ≤ most
        · left; simpa using h
        · right; exact ⟨by simpa using h, by rw [beq_iff_eq]; omega⟩
      rcases hfits with f1 | ⟨f1, f2⟩
      all_goals
        go_wp2_with fail
        refine (end_any _ _ _ _ H14.out).mono ?_
        rintro e w15 ⟨rfl, rfl⟩
        simp only [Bool.not_false, List.isEmpty_nil, Bool.and_self]
        go_wp2_with fail
        refine (bad_any _ _ _ _ H14.out).mono ?_
        rintro e w15 ⟨rfl, rfl⟩
        go_wp2
        go_ret
        exact ⟨rfl, K3.out.still⟩
    · have hdT := decT_over (most := (max most 0).toNat) s (by omega) (by omega)
      have HDT := Lib.hid hdT; clear hdT
      refine (rtext_any _ _ most _ H13.out hm).mono ?_
      rintro e w14 (⟨x, r, hd, rfl, h14, o14⟩ | ⟨hd, rfl, ⟨l14, h14⟩, o14⟩)
      · rw [HDT.out] at hd; cases hd
      obtain ⟨k1, k2, k3⟩ := (KEY.out _ o14).out
      have H14 := Lib.hid h14; have K3 := Lib.hid k3; clear h14 o14 k3 hd
      have f1 : decide ((s.length : Int) ≤ most) = false := by simp; omega
      have f2 : ((s.length : Int) == 0) = false := by rw [beq_eq_false_iff_ne]; omega
      go_wp2_with fail
      refine (end_any _ _ _ _ H14.out).mono ?_
      rintro e w15 ⟨rfl, rfl⟩
      simp only [Bool.not_true, Bool.false_and]
      go_wp2_with fail
      refine (bad_any _ _ _ _ H14.out).mono ?_
      rintro e w15 ⟨rfl, rfl⟩
      go_wp2
      all_goals first
        | (exfalso
           have hse : s = [] := ‹s = []›
           rw [hse] at hfit
           exact hfit (Nat.zero_le _))
        | (go_ret
           exact ⟨rfl, K3.out.still⟩)
  · have t1 : decide ((3000 : Int) < (s.length : Int)) = true := by simp; omega
    go_enter Try.func5, Try.ntmps5
    go_wp2_with fail
    refine (awake_any _).mono ?_
    rintro e w1 ⟨rfl, o1⟩
    go_wp2_with fail
    refine (awake_any _).mono ?_
    rintro e w2 ⟨rfl, o2⟩
    go_wp2
    go_ret
    exact ⟨rfl, (o1.trans o2).still⟩
theorem u64_bd {n : Int} (h : (Lit.int .u64 n).wf = true) : 0 ≤ n ∧ n < 18446744073709551616 := by
  simp [Lit.wf, IntKind.min, IntKind.max, IntKind.signed, IntKind.bits] at h; omega
theorem i64_bd {n : Int} (h : (Lit.int .i64 n).wf = true) : -9223372036854775808 ≤ n ∧ n ≤ 9223372036854775807 := by
  simp [Lit.wf, IntKind.min, IntKind.max, IntKind.signed, IntKind.bits] at h; omega
theorem numbers_walk (n i : Int) (s : ByteArray) (most : Int) (w : World) (w0 : (Lit.int .u64 n).wf = true) (w1 : (Lit.int .i64 i).wf = true) (h2 : s.size ≤ 140737488351232) (w3 : (Lit.int .i64 most).wf = true) :
    Calls Try.prog 5 #[.int .u64 n, .int .i64 i, .string s, .int .i64 most] w fun e w' => e = .returned (.bool true) ∧ Below w.heap.size w w' := by
  obtain ⟨l, rfl, hl⟩ : ∃ l : List UInt8, s = ⟨l.toArray⟩ ∧ l.length = s.size := ⟨s.data.toList, by cases s; simp, by cases s; simp [ByteArray.size]⟩
  obtain ⟨m, rfl⟩ := Int.eq_ofNat_of_zero_le (u64_bd w0).1
  exact numbers0 m i l most w (by have := (u64_bd w0).2; omega) (i64_bd w1).1 (i64_bd w1).2 (by omega) (i64_bd w3).2
end Go.Proofs.Ytoojnpafcdaflaa
