/- LexAgain: the walk. -/
import Derived.Test.YtjcigaceacgjaaaDoorLJn
import Derived.Test.YtjcigaceacgjaaaDoorTpk
namespace Go.Proofs.YtjcigaceacgjaaaDoor
open Go Go.RowKit
set_option linter.unusedVariables false
set_option linter.unusedSimpArgs false

theorem cat_blank (l t : List UInt8) (T : ByteArray) (hT : T = ⟨t.toArray⟩) : (⟨l.toArray⟩ : ByteArray) ++ (T ++ ⟨#[32]⟩) = ⟨(l ++ (t ++ [32])).toArray⟩ := by
  subst hT; apply ByteArray.ext; simp
theorem toksA_small : ∀ (a : Nat) (l : List UInt8), ∀ ts, toksA a l = .ok ts → ts.length ≤ l.length + 1 ∧ ∀ t ∈ ts, t.text.length ≤ 200 + l.length := by
  refine toksA_ind ?_ ?_ ?_ ?_ ?_
  · intro a ts h
    rw [toksA_nil] at h; injection h with h; subst h
    exact ⟨by simp, fun t ht => by simp at ht; subst ht; simp⟩
  · intro a c l hb ih ts h
    rw [toksA_blk a hb] at h
    obtain ⟨h1, h2⟩ := ih ts h
    exact ⟨by simp only [List.length_cons]; omega, fun t ht => by have := h2 t ht; simp only [List.length_cons]; omega⟩
  · intro a c l hr ih ts h
    rw [toksA_rem a hr] at h
    obtain ⟨h1, h2⟩ := ih ts h
    rw [List.length_drop] at h1
    refine ⟨by simp only [List.length_cons]; omega, fun t ht => ?_⟩
    have := h2 t ht
    rw [List.length_drop] at this
    simp only [List.length_cons]; omega
  · intro a c l off e hb hr hx ts h
    rw [toksA_bad a hb hr hx] at h; cases h
  · intro a c l k t n len hb hr ho ih ts h
    rw [toksA_one a hb hr ho] at h
    obtain ⟨us, hu, rfl⟩ := Out.cons_ok h
    obtain ⟨h1, h2⟩ := ih us hu
    have hl := oneP_len ho
    rw [List.length_drop] at h1
    refine ⟨by simp only [List.length_cons] at hl h1 ⊢; omega, fun t' ht => ?_⟩
    rcases List.mem_cons.1 ht with rfl | ht
    · show t.length ≤ _
      rcases (oneP_text ho).2.2 with h3 | h3
      · subst h3
        have : t.length ≤ 200 := by
          rw [oneP_cons] at ho
          by_cases h1 : letB c = true
          · rw [if_pos h1] at ho
            split at ho
            · cases ho
            · injection ho with e1; omega
          rw [if_neg h1] at ho
          by_cases h2 : c.toNat = 45 ∨ digB c = true
          · rw [if_pos h2] at ho
            have := (numP_take ho).1; omega
          rw [if_neg h2] at ho
          by_cases h3 : c.toNat = 34
          · rw [if_pos h3] at ho
            exact (txtP_len _ _ _ ho).2.2.2.2
          rw [if_neg h3] at ho
          by_cases h4 : dotsB (c :: l) = true
          · rw [if_pos h4] at ho; injection ho with e1; omega
          rw [if_neg h4] at ho
          by_cases h5 : signB c = true
          · rw [if_pos h5] at ho; injection ho with e1; omega
          · rw [if_neg h5] at ho; cases ho
        omega
      · rw [h3, List.length_take]; omega
    · have := h2 t' ht
      rw [List.length_drop] at this
      omega
theorem flat_len (M : Nat) : ∀ ts : List Tok, (∀ t ∈ ts, t.text.length ≤ M) → (flatT ts).length ≤ ts.length * (M + 1)
  | [], _ => by simp [flatT]
  | t :: ts, h => by
    have h1 := h t (by simp)
    have h2 := flat_len M ts (fun u hu => h u (by simp [hu]))
    rw [flatT_cons, List.length_append, List.length_cons, List.length_cons, Nat.succ_mul]; omega
theorem flat_small {s : List UInt8} {ts : List Tok} (h : toks s = .ok ts) (hs : s.length ≤ 600) (k : Nat) : (flatT (ts.take k)).length ≤ 1000000 := by
  obtain ⟨h1, h2⟩ := toksA_small 0 s ts (toks_ok h).2
  have h3 := flat_len 800 (ts.take k) (fun t ht => by have := h2 t (List.mem_of_mem_take ht); omega)
  rw [List.length_take] at h3
  have h4 : min k ts.length * (800 + 1) ≤ 601 * 801 := Nat.mul_le_mul (by omega) (Nat.le_refl _)
  omega
set_option maxRecDepth 100000 in
set_option maxHeartbeats 8000000 in
theorem lagain_walk (s : ByteArray) (w : World) (hs : s.size ≤ maxLen) : Calls Tryd.prog 9 #[.string s] w fun e w' => e = .returned (.bool true) ∧ Below w.heap.size w w' := by
  have A := Lib.hid (awake05 w)
  have HS := Lib.hid hs
  unfold maxLen at hs
  go_enter Tryd.func9, Tryd.ntmps9
  go_wp2_with fail
  refine A.out.mono ?_
  rintro e w1 ⟨rfl, O1⟩
  have HO1 := Lib.hid O1; clear O1 A
  by_cases hbig : 600 < s.size
  · have t1 : decide ((s.size : Int) > 600) = true := decide_eq_true (by omega)
    have A := Lib.hid (awake05 w1)
    go_wp2_with fail
    refine A.out.mono ?_
    rintro e w2 ⟨rfl, O2⟩
    have HO2 := Lib.hid (HO1.out.trans O2); clear O2 A
    go_wp2_with fail
    go_ret
    exact ⟨rfl, HO2.out.below (Nat.le_refl _) (fun _ _ h => h)⟩
  have t1 : decide ((s.size : Int) > 600) = false := decide_eq_false (by omega)
  have T := Lib.hid (tokens_any s w1 HS.out)
  cases hP : toks s.data.toList with
  | bad p f =>
    rw [hP] at T
    have hf := (toks_off hP).2.2.1
    clear hP
    have t2 : ((f : Int) == 0) = false := by simp; omega
    go_wp2_with fail
    refine T.out.mono ?_
    rintro e w2 ⟨rfl, O2⟩
    have HO2 := Lib.hid (HO1.out.trans O2); clear O2 T
    go_wp2_with fail
    go_ret
    exact ⟨rfl, HO2.out.below (Nat.le_refl _) (fun _ _ h => h)⟩
  | ok ts =>
    rw [hP] at T
    have hone := (toks_at hP).1
    have HP := Lib.hid hP
    go_wp2_with fail
    refine T.out.mono ?_
    rintro e w2 ⟨v, rfl, how, O2⟩
    have TR := Lib.hid (TRow.of_own how hone)
    have HO2 := Lib.hid (HO1.out.trans O2); clear O2 how T hP
    obtain ⟨g, o, c, rfl, k1, k2, k3, HC⟩ := TR.out.at_ (i := 0) hone
    have H1 := Lib.hid HC; clear HC
    obtain ⟨N, hN⟩ : ∃ N, ts.length = N := ⟨_, rfl⟩
    rw [hN] at k1 hone ⊢
    have HN := Lib.hid hN; clear hN
    unfold maxLen at k2
    have HFS := Lib.hid (flat_small HP.out (by show s.size ≤ 600; omega))
    have HSM := Lib.hid (toksA_small 0 _ ts (toks_ok HP.out).2).2
    go_wp2_with fail
    clear t1
    go_loopw [6, 7] (fun y x wr => ∃ k : Nat, x = .int .i64 (k : Int) ∧ k ≤ N ∧ y = .string ⟨(flatT (ts.take k)).toArray⟩ ∧ Hid (∀ t ∈ ts.take k, t.kind ≠ 3) ∧ wr = w2) (fun _ x _ => N - (intOf x).toNat)
    case atStart => exact ⟨0, rfl, by omega, by simp [flatT], Lib.hid (by simp), rfl⟩
    case round =>
      obtain ⟨k, rfl, hk, rfl, HK, rfl⟩ := hrel
      by_cases hlt : k < N
      · have t1 : decide ((k : Int) < (N : Int)) = true := decide_eq_true (by omega)
        have hkt : k < ts.length := by rw [HN.out]; omega
        have hkN : (k : Int) < (N : Int) := by omega
        obtain ⟨a1, a2, a3, a4⟩ := H1.out k hkt
        have htk : ts.take (k + 1) = ts.take k ++ [ts[k]] := List.take_succ_eq_append_getElem hkt
        have HTK := Lib.hid htk; clear htk
        by_cases h3 : ts[k].kind = 3
        · have t2 : ((ts[k].kind : Int) == 3) = true := by simp; omega
          clear h3
          go_wp2_with fail
          go_ret
          exact ⟨rfl, HO2.out.below (Nat.le_refl _) (fun _ _ h => h)⟩
        · have t2 : ((ts[k].kind : Int) == 3) = false := by simp; omega
          have H3 := Lib.hid h3; clear h3
          have hfsm := HFS.out k
          have htsm : ts[k].text.length ≤ 100000 := by have := HSM.out ts[k] (List.getElem_mem hkt); have e : s.data.toList.length = s.size := rfl; omega
          obtain ⟨fl, hfl⟩ : ∃ fl, flatT (ts.take k) = fl := ⟨_, rfl⟩
          rw [hfl] at hfsm
          have hsn : flatT (ts.take (k + 1)) = fl ++ (ts[k].text ++ [32]) := by rw [HTK.out, flatT_snoc, hfl]
          have HSN := Lib.hid hsn; clear hsn
          have hk3 : ∀ t ∈ ts.take (k + 1), t.kind ≠ 3 := fun t ht => by
            rw [HTK.out] at ht
            rcases List.mem_append.1 ht with h | h
            · exact HK.out t h
            · simp at h; subst h; exact H3.out
          have HK3 := Lib.hid hk3; clear hk3
          rw [hfl]
          clear hfl
          go_wp2_with fail
          go_roundw
          case rel => exact ⟨k + 1, by simp, by omega, by rw [HSN.out, cat_blank _ _ _ rfl], HK3, by first | rfl | trivial⟩
          case measure => simp [intOf]; omega
      · have t1 : decide ((k : Int) < (N : Int)) = false := decide_eq_false (by omega)
        have hke : k = N := by omega
        subst hke
        have hall : ts.take k = ts := List.take_of_length_le (by rw [HN.out]; exact Nat.le_refl _)
        have h3 := HK.out
        rw [hall] at h3 ⊢
        obtain ⟨f1, us, f2, f3⟩ := toks_again HP.out h3 (by show s.size ≤ 600; omega)
        have HUS := Lib.hid f2; have HLK := Lib.hid f3
        have hul := f3.len
        obtain ⟨fb, hfb⟩ : ∃ fb : ByteArray, fb = ⟨(flatT ts).toArray⟩ := ⟨_, rfl⟩
        have S := Lib.hid (tokens_any fb wr (by rw [hfb]; show (flatT ts).length ≤ _; unfold maxLen; omega))
        rw [← hfb]
        have e : fb.data.toList = flatT ts := by rw [hfb]
        rw [e, HUS.out] at S
        clear e hfb h3 hall f1 f2 f3
        go_wp2_with fail
        refine S.out.mono ?_
        rintro e w3 ⟨x, rfl, how, O3⟩
        rw [HN.out] at hul
        have XR := Lib.hid (TRow.of_own how (by omega))
        have TR3 := Lib.hid (TR.out.still O3)
        have HO3 := Lib.hid (HO2.out.trans O3); clear O3 how S
        obtain ⟨g2, o2, c2, rfl, m1, m2, m3, HC2⟩ := XR.out.at_ (i := 0) (by omega)
        obtain ⟨g1, o1, c1, hv, n1, n2, n3, HC1⟩ := TR3.out.at_ (i := 0) (by rw [HN.out]; omega)
        injection hv with hv hx1 hx2
        injection hv with hv
        injection hv with e1 e2 e3
        subst e1; subst e2; clear hx1 hx2
        have H2 := Lib.hid HC2; have H1' := Lib.hid HC1; have HUL := Lib.hid hul
        clear HC2 HC1 n1 n2 n3
        rw [HUL.out] at m1 ⊢
        unfold maxLen at m2
        clear hul
        go_wp2_with fail
        clear t1
        go_loopw [11] (fun x wr => ∃ j : Nat, x = .int .i64 (j : Int) ∧ j ≤ k ∧ ∃ q, wr = w3.drewN q) (fun x _ => k - (intOf x).toNat)
        case atStart => exact ⟨0, rfl, by omega, 0, rfl⟩
        case round =>
          obtain ⟨j, rfl, hj, q, rfl⟩ := hrel
          by_cases hlt2 : j < k
          · have t1 : decide ((j : Int) < (k : Int)) = true := decide_eq_true (by omega)
            have hj1 : j < ts.length := by rw [HN.out]; omega
            have hj2 : j < us.length := by rw [HUL.out]; omega
            have hjk : (j : Int) < (k : Int) := by omega
            obtain ⟨a1, a2, a3, a4⟩ := H1'.out j hj1
            obtain ⟨b1, b2, b3, b4⟩ := H2.out j hj2
            obtain ⟨l1, l2, l3⟩ := HLK.out.get j hj1 hj2
            rw [← l1] at b1; rw [← l2] at b2; rw [← l3] at b3
            clear l1 l2 l3 b4 a4
            generalize ts[j] = t at *
            obtain ⟨kd, tx, nn, at_⟩ := t
            simp only at a1 a2 a3 b1 b2 b3
            clear hj1 hj2
            go_wp2_with fail
            go_quiet (fail)
            clear a1 a2 a3 b1 b2 b3
            go_wp2_with fail
            go_roundw
            case rel => exact ⟨j + 1, by simp, by omega, q + nq, by simp [go_sem]⟩
            case measure => simp [intOf]; omega
          · have t1 : decide ((j : Int) < (k : Int)) = false := decide_eq_false (by omega)
            have HF := Lib.hid (HO3.out.drewN q)
            go_wp2_with fail
            go_ret
            exact ⟨rfl, HF.out.below (Nat.le_refl _) (fun _ _ h => h)⟩
end Go.Proofs.YtjcigaceacgjaaaDoor
