/- LexJoins: the walk. -/
import Derived.Test.YtjcigaceacgjaaaDoorLTok
import Derived.Test.YtjcigaceacgjaaaDoorTpj
namespace Go.Proofs.YtjcigaceacgjaaaDoor
open Go Go.RowKit
set_option linter.unusedVariables false
set_option linter.unusedSimpArgs false

theorem line_list (a b : ByteArray) : ((a ++ ⟨#[10]⟩) ++ b).data.toList = a.data.toList ++ 10 :: b.data.toList := by simp
theorem line_size (a b : ByteArray) : ((a ++ ⟨#[10]⟩) ++ b).size = a.size + b.size + 1 := by
  have : ((a ++ ⟨#[10]⟩) ++ b).size = ((a ++ ⟨#[10]⟩) ++ b).data.toList.length := rfl
  rw [this, line_list, List.length_append, List.length_cons]
  show a.size + (b.size + 1) = _
  omega
theorem TokRes.any {w w' : World} {P : Out} {e : Ending} (h : TokRes w P e w') : ∃ (a : Option Addr) (n c : Nat) (x y : Int), e = .returned (.tuple #[.slice a n c, .int .i64 x, .int .i64 y]) ∧ Only (fun _ => False) w w' := by
  cases P with
  | ok ts =>
    obtain ⟨v, rfl, h1, h2⟩ := h
    obtain ⟨a, c, rfl, _⟩ := own_form h1
    exact ⟨a, _, c, 0, 0, rfl, h2⟩
  | bad p f => exact ⟨none, 0, 0, _, _, h.1, h.2⟩
theorem RokRes.any {w w' : World} {P : Out} {e : Ending} (h : RokRes w P e w') : ∃ (a : Option Addr) (n c : Nat) (x y : Int), e = .returned (.tuple #[.slice a n c, .int .i64 x, .int .i64 y]) ∧ Only (fun _ => False) w w' := by
  cases P with
  | ok ts =>
    obtain ⟨v, rfl, h1, h2⟩ := h
    obtain ⟨a, c, rfl, _⟩ := own_form h1
    exact ⟨a, _, c, 0, 0, rfl, h2⟩
  | bad p f => exact ⟨none, 0, 0, _, _, h.1, h.2⟩
theorem toksA_off : ∀ (a : Nat) (l : List UInt8), ∀ p f, toksA a l = .bad p f → a ≤ p ∧ p ≤ a + l.length ∧ 0 < f ∧ f ≤ 4 := by
  refine toksA_ind ?_ ?_ ?_ ?_ ?_
  · intro a p f h
    rw [toksA_nil] at h; cases h
  · intro a c l hb ih p f h
    rw [toksA_blk a hb] at h
    have := ih p f h
    simp only [List.length_cons]; omega
  · intro a c l hr ih p f h
    rw [toksA_rem a hr] at h
    have := ih p f h
    have hl := runL_le lineB l
    rw [List.length_drop] at this
    simp only [List.length_cons]; omega
  · intro a c l off e hb hr hx p f h
    rw [toksA_bad a hb hr hx] at h
    injection h with h1 h2
    have := oneP_off hx
    omega
  · intro a c l k t n len hb hr ho ih p f h
    rw [toksA_one a hb hr ho] at h
    have := ih p f (Out.cons_bad h)
    have hl := oneP_len ho
    rw [List.length_drop] at this
    omega
theorem toks_off {s : List UInt8} {p f : Nat} (h : toks s = .bad p f) : p ≤ s.length ∧ p ≤ 2000 ∧ 0 < f ∧ f ≤ 4 := by
  unfold toks at h
  split at h
  · injection h with h1 h2; omega
  · have := toksA_off 0 s p f h; omega
theorem up_upp : Tok.up = Tok.upp := rfl
set_option maxRecDepth 100000 in
set_option maxHeartbeats 4000000 in
theorem ljoins_walk (a b : ByteArray) (w : World) (ha : a.size ≤ 140737488351232) (hb : b.size ≤ 140737488351232) : Calls Tryd.prog 4 #[.string a, .string b] w fun e w' => e = .returned (.bool true) ∧ Below w.heap.size w w' := by
  have A := Lib.hid (awake05 w)
  go_enter Tryd.func4, Tryd.ntmps4
  go_wp2_with fail
  refine A.out.mono ?_
  rintro e w1 ⟨rfl, O1⟩
  have HO1 := Lib.hid O1; clear O1 A
  by_cases hbig : 1999 < a.size + b.size
  · have t1 : decide ((a.size : Int) + (b.size : Int) > 1999) = true := decide_eq_true (by omega)
    have A := Lib.hid (awake05 w1)
    go_wp2_with fail
    refine A.out.mono ?_
    rintro e w2 ⟨rfl, O2⟩
    have HO2 := Lib.hid (HO1.out.trans O2); clear O2 A
    go_wp2_with fail
    go_ret
    exact ⟨rfl, HO2.out.below (Nat.le_refl _) (fun _ _ h => h)⟩
  have t1 : decide ((a.size : Int) + (b.size : Int) > 1999) = false := decide_eq_false (by omega)
  have T := Lib.hid (tokens_any a w1 (by unfold maxLen; omega))
  have hcat : (a.data.toList.length + b.data.toList.length ≤ 1999) := by show a.size + b.size ≤ 1999; omega
  have HCAT := Lib.hid hcat; clear hcat
  have hsz : ((a ++ ⟨#[10]⟩) ++ b).size ≤ maxLen := by rw [line_size]; unfold maxLen; omega
  have HSZ := Lib.hid hsz; clear hsz
  cases hP : toks a.data.toList with
  | bad p f =>
    rw [hP] at T
    have HP := Lib.hid hP; clear hP
    go_wp2_with fail
    refine T.out.mono ?_
    rintro e w2 ⟨rfl, O2⟩
    have HO2 := Lib.hid (HO1.out.trans O2); clear O2 T
    have R := Lib.hid (rtokens_any b w2 (by unfold maxLen; omega))
    go_wp2_with fail
    refine R.out.mono ?_
    rintro e w3 hR
    obtain ⟨ra, rn, rc, rx, ry, rfl, O3⟩ := hR.any
    have HO3 := Lib.hid (HO2.out.trans O3); clear O3 R hR
    have S := Lib.hid (tokens_any ((a ++ ⟨#[10]⟩) ++ b) w3 HSZ.out)
    go_wp2_with fail
    refine S.out.mono ?_
    rintro e w4 hS
    obtain ⟨sa, sn, sc, sx, sy, rfl, O4⟩ := hS.any
    have HO4 := Lib.hid (HO3.out.trans O4); clear O4 S hS
    have hf := (toks_off HP.out).2.2.1
    have t2 : ((f : Int) == 0) = false := by simp; omega
    go_wp2_with fail
    go_ret
    exact ⟨rfl, HO4.out.below (Nat.le_refl _) (fun _ _ h => h)⟩
  | ok ts =>
    rw [hP] at T
    obtain ⟨hn, hat⟩ := toks_at hP
    have HP := Lib.hid hP; have HAT := Lib.hid hat; clear hP hat
    go_wp2_with fail
    refine T.out.mono ?_
    rintro e w2 ⟨v, rfl, how, O2⟩
    have TR := Lib.hid (TRow.of_own how hn)
    have HO2 := Lib.hid (HO1.out.trans O2); clear O2 how T
    have R := Lib.hid (rtokens_any b w2 (by unfold maxLen; omega))
    have hj := toks_join HP.out HCAT.out
    cases hQ : toks b.data.toList with
    | bad p f =>
      rw [hQ] at R hj
      have hoff := toks_off hQ
      have HJ := Lib.hid hj; clear hQ hj
      go_wp2_with fail
      refine R.out.mono ?_
      rintro e w3 ⟨rfl, O3⟩
      have HO3 := Lib.hid (HO2.out.trans O3); clear O3 R
      have S := Lib.hid (tokens_any ((a ++ ⟨#[10]⟩) ++ b) w3 HSZ.out)
      rw [line_list, HJ.out] at S
      obtain ⟨va, vn, vc, hv⟩ : ∃ va vn vc, v = .slice va vn vc := by obtain ⟨x, y, h⟩ := TR.out.form; exact ⟨_, _, _, h⟩
      subst hv
      go_wp2_with fail
      refine S.out.mono ?_
      rintro e w4 ⟨rfl, O4⟩
      have HO4 := Lib.hid (HO3.out.trans O4); clear O4 S
      have t2 : ((f : Int) == 0) = false := by simp; omega
      have hla : ((p + (a.data.toList.length + 1) : Nat) : Int) = (a.size : Int) + 1 + (p : Int) := by
        show ((p + (a.size + 1) : Nat) : Int) = _; omega
      rw [hla]; clear hla
      go_wp2_with fail
      go_ret
      exact ⟨rfl, HO4.out.below (Nat.le_refl _) (fun _ _ h => h)⟩
    | ok us =>
      rw [hQ] at R hj
      obtain ⟨hn2, hat2⟩ := toks_at hQ
      have hbl : b.size ≤ 2000 := (toks_ok hQ).1
      have hal : a.size ≤ 2000 := (toks_ok HP.out).1
      have HJ := Lib.hid hj; have HAT2 := Lib.hid hat2; clear hQ hj hat2
      go_wp2_with fail
      refine R.out.mono ?_
      rintro e w3 ⟨u, rfl, how, O3⟩
      have UR := Lib.hid (TRow.of_own how hn2)
      have TR3 := Lib.hid (TR.out.still O3)
      have HO3 := Lib.hid (HO2.out.trans O3); clear O3 R how TR
      have S := Lib.hid (tokens_any ((a ++ ⟨#[10]⟩) ++ b) w3 HSZ.out)
      rw [line_list, HJ.out] at S
      go_wp2_with fail
      refine S.out.mono ?_
      rintro e w4 ⟨x, rfl, how, O4⟩
      have UR4 := Lib.hid (UR.out.still O4)
      have TR4 := Lib.hid (TR3.out.still O4)
      obtain ⟨ks, hks⟩ : ∃ ks, ts.dropLast ++ us.map (Tok.upp (a.data.toList.length + 1)) = ks := ⟨_, rfl⟩
      rw [hks] at how
      have hkl : ks.length = ts.length - 1 + us.length := by rw [← hks]; simp
      have XR4 := Lib.hid (TRow.of_own how (by omega))
      have HO4 := Lib.hid (HO3.out.trans O4); clear O4 S how TR3 UR
      obtain ⟨g1, o1, c1, rfl, k1, k2, k3, HC1⟩ := TR4.out.at_ (i := 0) (by omega)
      obtain ⟨g2, o2, c2, rfl, k4, k5, k6, HC2⟩ := XR4.out.at_ (i := 0) (by omega)
      obtain ⟨au, cu, rfl⟩ := UR4.out.form
      have XD := XR4.out.drop (k := ts.length - 1) (by omega)
      obtain ⟨g3, o3, e1, _, XD⟩ := XD
      injection e1 with e1
      injection e1 with e1 e2 e3
      subst e1; subst e2
      have hkd : ks.drop (ts.length - 1) = us.map (Tok.up (a.size + 1)) := by
        rw [← hks, List.drop_left' (by simp)]; rfl
      rw [hkd, hkl, show ts.length - 1 + us.length - (ts.length - 1) = us.length from by omega] at XD
      have H1 := Lib.hid HC1; have H2 := Lib.hid HC2; have HXD := Lib.hid XD; have HKS := Lib.hid hks
      have hpre : ∀ i (h1 : i < ts.length) (h2 : i < ks.length), i + 1 < ts.length → ks[i] = ts[i] := fun i h1 h2 h => by
        subst hks
        rw [List.getElem_append_left (by simp; omega), List.getElem_dropLast]
      have HPRE := Lib.hid hpre
      clear HC1 HC2 XD hkd hks hpre e3
      have HKL := Lib.hid hkl
      obtain ⟨K, hK⟩ : ∃ K, ks.length = K := ⟨_, rfl⟩
      obtain ⟨N, hN⟩ : ∃ N, ts.length = N := ⟨_, rfl⟩
      obtain ⟨M, hM⟩ : ∃ M, us.length = M := ⟨_, rfl⟩
      have hkn : (K : Int) = (N : Int) - 1 + (M : Int) := by omega
      rw [hN] at k1 hn HXD; rw [hM] at hn2 HXD; rw [hK] at k4
      rw [hK, hM, hN]
      have HK := Lib.hid hK; have HN := Lib.hid hN; have HM := Lib.hid hM; have HKN := Lib.hid hkn
      clear hK hN hM hkl hkn
      unfold maxLen at k2 k5
      have hN63 : N ≤ 9223372036854775807 := by omega
      have hs1 : (N : Int) - 1 + (M : Int) ≤ 9223372036854775807 := by have := HKN.out; omega
      have hs2 : 0 ≤ (N : Int) - 1 + (M : Int) := by omega
      have hs3 : 0 ≤ (N : Int) - 1 := by omega
      have t3 : ((K : Int) == (N : Int) - 1 + (M : Int)) = true := by rw [HKN.out]; simp
      have t4 : ((K : Int) != (N : Int) - 1 + (M : Int)) = false := by rw [HKN.out]; simp
      go_wp2_with fail
      clear t3 t4 t1
      go_loopw [14] (fun x wr => ∃ k : Nat, x = .int .i64 (k : Int) ∧ k + 1 ≤ N ∧ ∃ q, wr = w4.drewN q) (fun x _ => N - (intOf x).toNat)
      case atStart => exact ⟨0, rfl, by omega, 0, rfl⟩
      case round =>
        obtain ⟨k, rfl, hk, q, rfl⟩ := hrel
        by_cases hlt : k + 1 < N
        · have t1 : decide ((k : Int) + 1 < (N : Int)) = true := decide_eq_true (by omega)
          have hkt : k < ts.length := by rw [HN.out]; omega
          have hkk : k < ks.length := by rw [HKL.out, HN.out]; omega
          have hkK : (k : Int) < (K : Int) := by have := HKN.out; omega
          have hkN : (k : Int) < (N : Int) := by omega
          obtain ⟨a1, a2, a3, a4⟩ := H1.out k hkt
          obtain ⟨b1, b2, b3, b4⟩ := H2.out k hkk
          rw [HPRE.out k hkt hkk (by rw [HN.out]; omega)] at b1 b2 b3 b4
          generalize ts[k] = t at *
          obtain ⟨kd, tx, nn, at_⟩ := t
          simp only at a1 a2 a3 a4 b1 b2 b3 b4
          clear hkt hkk
          go_wp2_with fail
          go_quiet (fail)
          clear a1 a2 a3 a4 b1 b2 b3 b4
          go_wp2_with fail
          go_roundw
          case rel => exact ⟨k + 1, by simp, by omega, q + nq, by simp [go_sem]⟩
          case measure => simp [intOf]; omega
        · have t1 : decide ((k : Int) + 1 < (N : Int)) = false := decide_eq_false (by omega)
          have hcap : (N : Int) - 1 < (c2 : Int) := by have := HKN.out; omega
          have hcap2 : N - 1 < c2 := by have := HKN.out; omega
          have hNK : (N : Int) - 1 ≤ (K : Int) := by have := HKN.out; omega
          have hal2 : (a.size : Int) ≤ 2000 := by omega
          have hKM : K - (N - 1) = M := by have := HKN.out; omega
          have HKM := Lib.hid hKM; clear hKM
          have oD : Only (fun _ => False) w4 (w4.drewN q) := (Only.refl _ w4).drewN q
          have S := Lib.hid (same_true _ _ us (a.size + 1) (w4.drewN q) (HXD.out.still oD) (UR4.out.still oD) (fun t ht => by have := HAT2.out t ht; have e : b.data.toList.length = b.size := rfl; omega) (by omega))
          have HO5 := Lib.hid (HO4.out.trans oD)
          rw [HM.out, show ((a.size + 1 : Nat) : Int) = (a.size : Int) + 1 from by omega] at S
          clear oD
          go_wp2_with fail
          rw [HKM.out]
          refine S.out.mono ?_
          rintro e w5 ⟨rfl, O5⟩
          have HO6 := Lib.hid (HO5.out.trans O5); clear O5
          go_wp2_with fail
          go_ret
          exact ⟨rfl, HO6.out.below (Nat.le_refl _) (fun _ _ h => h)⟩
end Go.Proofs.YtjcigaceacgjaaaDoor
