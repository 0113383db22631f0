/- Package ledger: Append. -/
import Derived.Test.YtlkglhgndfhjeaaGpl
namespace Go.Proofs.Ytlkglhgndfhjeaa
open Go Go.RowKit
set_option linter.unusedVariables false
set_option linter.unusedSimpArgs false
set_option maxRecDepth 100000

theorem append_nil (v : Value) (w : World) : Calls Try.prog 36 #[.pointer none, v] w fun e w' => e = .returned (.int .i64 6) ∧ w = w' := by
  go_enter Try.func36, Try.ntmps36
  go_wp2
  go_ret
  exact ⟨rfl, rfl⟩
/-- What Append leaves. -/
def ApnPost (W : World) (X : Nat → Prop) (d m : Nat) (V : List (List UInt8)) (l : Nat) (f : Fl) (fs : List (List UInt8)) (p : List UInt8) (w : World) (e : Ending) (w' : World) : Prop :=
  (4000 < p.length ∧ e = .returned (.int .i64 2) ∧ w = w') ∨
  (p.length ≤ 4000 ∧ f.room < sizes fs + (p.length + 8) ∧ e = .returned (.int .i64 13) ∧ Only (fun _ => False) w w') ∨
  (p.length ≤ 4000 ∧ sizes fs + (p.length + 8) ≤ f.room ∧ e = .returned (.int .i64 0) ∧ ∃ a c, let t := tailOf (f.apn p) (fs ++ [p]);
    Box w' l d (f.apn p) (.slice a t.length c) ∧ Bytes w' (.slice a t.length c) t ∧ (∀ k, (Value.slice a t.length c).ownBlock = some k → w.heap.size ≤ k ∧ k < w'.heap.size) ∧
    DX W (fun k => X k ∨ (Value.slice a t.length c).ownBlock = some k) w' d (apnV V f fs p) (m + 100) true ∧ Only (fun k => W.heap.size ≤ k ∧ (¬ X k ∨ k = l)) w w')
set_option maxHeartbeats 8000000 in
theorem append_any (W : World) (X : Nat → Prop) (d m : Nat) (V : List (List UInt8)) (q : Bool) (l : Nat) (f : Fl) (fs : List (List UInt8)) (a : Option Addr) (c : Nat) (pv : Value) (p : List UInt8) (w : World) (h : DX W X w d V m q) (hb : Box w l d f (.slice a (tailOf f fs).length c)) (ht : Bytes w (.slice a (tailOf f fs).length c) (tailOf f fs)) (g : Good V f fs) (hX : X l) (hl : W.heap.size ≤ l)
    (hp : Bytes w pv p) (hp5 : p.length ≤ 100000) (hm : m + 20000 ≤ 1000000000) (hn : fs.length + 2 ≤ 1000000) :
    Calls Try.prog 36 #[.pointer (some ⟨l, 0, none⟩), pv] w (ApnPost W X d m V l f fs p w) := by
  have hpw := hp
  obtain ⟨aP, cP, rfl, hcP1, hcP2, _⟩ := hp
  have hp0 : (0 : Int) ≤ (p.length : Int) := by omega
  have hp1 : (p.length : Int) ≤ 100000 := by omega
  by_cases h4 : 4000 < p.length
  · have t1 : decide ((4000 : Int) < (p.length : Int)) = true := by simp; omega
    have H4 := Lib.hid h4
    clear h hb ht g h4 hpw
    go_enter Try.func36, Try.ntmps36
    go_wp2
    go_ret
    exact .inl ⟨H4.out, rfl, rfl⟩
  · have HP4 : Hid (p.length ≤ 4000) := Lib.hid (by omega)
    have t1 : decide ((4000 : Int) < (p.length : Int)) = false := by simp; omega
    have hnd := need_any (p.length : Int) w hp0 (by omega)
    have hlf := lleft_any w l d f _ hb g.ok
    have hroom : f.room = (f.half - 1) * 64 := rfl
    have hh := g.ok.half
    have hen := g.en
    have hfit := g.fits
    rw [hen] at hlf
    obtain ⟨Rm, hRm⟩ : ∃ Rm, f.room = Rm := ⟨_, rfl⟩
    obtain ⟨E, hE⟩ : ∃ E, sizes fs = E := ⟨_, rfl⟩
    rw [hRm, hE] at hlf
    rw [hRm] at hroom hfit
    rw [hE] at hfit
    have HND := Lib.hid hnd; have HLF := Lib.hid hlf; have HB := Lib.hid hb; have H := Lib.hid h; have HT := Lib.hid ht; have G := Lib.hid g; have HHX := Lib.hid hX; have HLW := Lib.hid hl; have HP := Lib.hid hpw; have HR := Lib.hid hRm; have HE := Lib.hid hE; have HM := Lib.hid hm; have HN := Lib.hid hn
    clear hnd hlf hb h ht g hX hl hpw hRm hE hm hn hen
    by_cases hfull : Rm < E + (p.length + 8)
    · have t2 : decide ((Rm : Int) - (E : Int) < (p.length : Int) + 8) = true := by simp; omega
      go_enter Try.func36, Try.ntmps36
      go_wp2_with fail
      refine HND.out.mono ?_
      rintro e w1 ⟨rfl, rfl⟩
      go_wp2_with fail
      refine HLF.out.mono ?_
      rintro e w1 ⟨rfl, n1, rfl⟩
      have hfin : ApnPost W X d m V l f fs p w (.returned (.int .i64 13)) (w.drewN n1) := .inr (.inl ⟨by omega, by rw [HR.out, HE.out]; exact hfull, rfl, (Only.refl _ w).drewN n1⟩)
      have HFIN := Lib.hid hfin; clear hfin
      go_wp2
      go_ret
      exact HFIN.out
    · have t2 : decide ((Rm : Int) - (E : Int) < (p.length : Int) + 8) = false := by simp; omega
      have hfr := fun w' (o : Only (fun _ => False) w w') => frame_any f.turn (fs.length + 1) _ p w' (by have := G.out.ok.turn; omega) (by have := HN.out; omega) (HP.out.still o) (by omega)
      have e1 : ((fs.length + 1 : Nat) : Int) = (fs.length : Int) + 1 := by omega
      rw [e1] at hfr
      have hbn : f.n = fs.length := G.out.n
      have hn0 : (0 : Int) ≤ (fs.length : Int) := by omega
      have hn1 : (fs.length : Int) ≤ 1000000 := by have := HN.out; omega
      have HFR := Lib.hid hfr; have HBN := Lib.hid hbn
      have hfa : ∀ w', Only (fun _ => False) w w' → Box w' l d f (.slice a (tailOf f fs).length c) := fun w' o => HB.out.only o (fun h => h)
      have HFA := Lib.hid hfa
      clear hfr e1 hbn hfa
      go_enter Try.func36, Try.ntmps36
      go_wp2_with fail
      refine HND.out.mono ?_
      rintro e w1 ⟨rfl, rfl⟩
      go_wp2_with fail
      refine HLF.out.mono ?_
      rintro e w1 ⟨rfl, n1, rfl⟩
      go_upto_region 7 with (fail)
      refine wp_region_steps 11 (by kernel_rfl) rfl (by kernel_rfl) [some 25, some 26, some 27, some 28, some 29, some 30, some 31, some 32, some 33, some 34, some 35] rfl rfl (fun _ => False) [(fun v _ => v = (.pointer (some ⟨l, 0, none⟩))), (fun v _ => v = (.pointer (some ⟨l, 0, none⟩))), (fun v _ => v = (.pointer (some ⟨l, 4, none⟩))), (fun v _ => v = (.int .u64 (f.turn : Int))), (fun v _ => v = (.pointer (some ⟨l, 0, none⟩))), (fun v _ => v = (.pointer (some ⟨l, 0, none⟩))), (fun v _ => v = (.pointer (some ⟨l, 7, none⟩))), (fun v _ => v = (.int .i64 (fs.length : Int))), (fun v _ => v = (.int .i64 ((fs.length : Int) + 1))), (fun v _ => v = (.slice aP p.length cP)), (fun v w1 => Own8 w1 w.heap.size v (frm f.turn (fs.length + 1) p))] rfl ⟨?_, ?_, ?_, ?_, ?_, ?_, ?_, ?_, ?_, ?_, ?_, trivial⟩ _ rfl ⟨?_, ?_, ?_, ?_, ?_, ?_, ?_, ?_, ?_, ?_, ?_, trivial⟩ ?_
      · exact Stable.is _ _
      · exact Stable.is _ _
      · exact Stable.is _ _
      · exact Stable.is _ _
      · exact Stable.is _ _
      · exact Stable.is _ _
      · exact Stable.is _ _
      · exact Stable.is _ _
      · exact Stable.is _ _
      · exact Stable.is _ _
      · exact fun v w1 w2 h ho => h.still ho
      · intro x wx ox hN TT HTT
        clear hN
        unfold StepTo
        simp only [putAll, Act.put, List.setIfInBounds_toArray, List.set_cons_succ, List.set_cons_zero]
        go_wp2_with fail
        exact ⟨rfl, _, rfl, HTT.out _ _ (rfl) (Only.refl _ _)⟩
      · intro x wx ox hN TT HTT
        have r25 : x 0 = (.pointer (some ⟨l, 0, none⟩)) := hN.1 rfl
        clear hN
        unfold StepTo
        simp only [putAll, Act.put, List.setIfInBounds_toArray, List.set_cons_succ, List.set_cons_zero, r25]
        clear r25
        go_wp2_with fail
        exact ⟨rfl, _, rfl, HTT.out _ _ (rfl) (Only.refl _ _)⟩
      · intro x wx ox hN TT HTT
        have r26 : x 1 = (.pointer (some ⟨l, 0, none⟩)) := hN.1 rfl
        clear hN
        unfold StepTo
        simp only [putAll, Act.put, List.setIfInBounds_toArray, List.set_cons_succ, List.set_cons_zero, r26]
        clear r26
        go_wp2_with fail
        exact ⟨rfl, _, rfl, HTT.out _ _ (rfl) (Only.refl _ _)⟩
      · intro x wx ox hN TT HTT
        have r27 : x 2 = (.pointer (some ⟨l, 4, none⟩)) := hN.1 rfl
        clear hN
        unfold StepTo
        simp only [putAll, Act.put, List.setIfInBounds_toArray, List.set_cons_succ, List.set_cons_zero, r27]
        clear r27
        obtain ⟨d0, _, d2, d3, d4, _, _, d7, _, _⟩ := (HFA.out wx ((((Only.refl _ w).drewN n1).drew).trans ox)).cells
        go_wp2_with fail
        exact ⟨rfl, _, rfl, HTT.out _ _ (rfl) (Only.refl _ _)⟩
      · intro x wx ox hN TT HTT
        clear hN
        unfold StepTo
        simp only [putAll, Act.put, List.setIfInBounds_toArray, List.set_cons_succ, List.set_cons_zero]
        go_wp2_with fail
        exact ⟨rfl, _, rfl, HTT.out _ _ (rfl) (Only.refl _ _)⟩
      · intro x wx ox hN TT HTT
        have r29 : x 4 = (.pointer (some ⟨l, 0, none⟩)) := hN.1 rfl
        clear hN
        unfold StepTo
        simp only [putAll, Act.put, List.setIfInBounds_toArray, List.set_cons_succ, List.set_cons_zero, r29]
        clear r29
        go_wp2_with fail
        exact ⟨rfl, _, rfl, HTT.out _ _ (rfl) (Only.refl _ _)⟩
      · intro x wx ox hN TT HTT
        have r30 : x 5 = (.pointer (some ⟨l, 0, none⟩)) := hN.1 rfl
        clear hN
        unfold StepTo
        simp only [putAll, Act.put, List.setIfInBounds_toArray, List.set_cons_succ, List.set_cons_zero, r30]
        clear r30
        go_wp2_with fail
        exact ⟨rfl, _, rfl, HTT.out _ _ (rfl) (Only.refl _ _)⟩
      · intro x wx ox hN TT HTT
        have r31 : x 6 = (.pointer (some ⟨l, 7, none⟩)) := hN.1 rfl
        clear hN
        unfold StepTo
        simp only [putAll, Act.put, List.setIfInBounds_toArray, List.set_cons_succ, List.set_cons_zero, r31]
        clear r31
        obtain ⟨d0, _, d2, d3, d4, _, _, d7, _, _⟩ := (HFA.out wx ((((Only.refl _ w).drewN n1).drew).trans ox)).cells
        rw [HBN.out] at d7
        go_wp2_with fail
        exact ⟨rfl, _, rfl, HTT.out _ _ (rfl) (Only.refl _ _)⟩
      · intro x wx ox hN TT HTT
        have r32 : x 7 = (.int .i64 (fs.length : Int)) := hN.1 rfl
        clear hN
        unfold StepTo
        simp only [putAll, Act.put, List.setIfInBounds_toArray, List.set_cons_succ, List.set_cons_zero, r32]
        clear r32
        go_wp2_with fail
        exact ⟨rfl, _, rfl, HTT.out _ _ (rfl) (Only.refl _ _)⟩
      · intro x wx ox hN TT HTT
        clear hN
        unfold StepTo
        simp only [putAll, Act.put, List.setIfInBounds_toArray, List.set_cons_succ, List.set_cons_zero]
        go_wp2_with fail
        exact ⟨rfl, _, rfl, HTT.out _ _ (rfl) (Only.refl _ _)⟩
      · intro x wx ox hN TT HTT
        have r28 : x 3 = (.int .u64 (f.turn : Int)) := hN.1 rfl
        have r33 : x 8 = (.int .i64 ((fs.length : Int) + 1)) := hN.2.1 rfl
        have r34 : x 9 = (.slice aP p.length cP) := hN.2.2.1 rfl
        clear hN
        unfold StepTo
        simp only [putAll, Act.put, List.setIfInBounds_toArray, List.set_cons_succ, List.set_cons_zero, r28, r33, r34]
        clear r28 r33 r34
        have o0 := (((Only.refl (fun _ => False) w).drewN n1).drew).trans ox
        have hc := HFR.out wx o0
        have hsz : w.heap.size ≤ wx.heap.size := o0.size
        have HC := Lib.hid hc; have HSZ := Lib.hid hsz; clear hc o0 hsz
        go_wp2_with fail
        refine HC.out.mono ?_
        rintro e w6 ⟨v6, rfl, h6, o6⟩
        have H6 := Lib.hid h6; have O6 := Lib.hid o6; clear h6 o6
        go_wp2_with fail
        exact ⟨rfl, _, rfl, HTT.out _ _ (H6.out.mono HSZ.out) (O6.out)⟩
      intro xa wxa oxa hN
      have r25 : xa 0 = (.pointer (some ⟨l, 0, none⟩)) := hN.1
      have r26 : xa 1 = (.pointer (some ⟨l, 0, none⟩)) := hN.2.1
      have r27 : xa 2 = (.pointer (some ⟨l, 4, none⟩)) := hN.2.2.1
      have r28 : xa 3 = (.int .u64 (f.turn : Int)) := hN.2.2.2.1
      have r29 : xa 4 = (.pointer (some ⟨l, 0, none⟩)) := hN.2.2.2.2.1
      have r30 : xa 5 = (.pointer (some ⟨l, 0, none⟩)) := hN.2.2.2.2.2.1
      have r31 : xa 6 = (.pointer (some ⟨l, 7, none⟩)) := hN.2.2.2.2.2.2.1
      have r32 : xa 7 = (.int .i64 (fs.length : Int)) := hN.2.2.2.2.2.2.2.1
      have r33 : xa 8 = (.int .i64 ((fs.length : Int) + 1)) := hN.2.2.2.2.2.2.2.2.1
      have r34 : xa 9 = (.slice aP p.length cP) := hN.2.2.2.2.2.2.2.2.2.1
      have r35 : (fun (v : Value) (w1 : World) => Own8 w1 w.heap.size v (frm f.turn (fs.length + 1) p)) (xa 10) wxa := hN.2.2.2.2.2.2.2.2.2.2.1
      clear hN
      simp only [putAll, Act.put, List.setIfInBounds_toArray, List.set_cons_succ, List.set_cons_zero, r25, r26, r27, r28, r29, r30, r31, r32, r33, r34]
      clear r25 r26 r27 r28 r29 r30 r31 r32 r33 r34
      have oa := (((Only.refl (fun _ => False) w).drewN n1).drew).trans oxa
      obtain ⟨aF, cF, eF⟩ := r35.form
      rw [eF] at r35 ⊢
      obtain ⟨F, hF⟩ : ∃ F, frm f.turn (fs.length + 1) p = F := ⟨_, rfl⟩
      have hFl : F.length = p.length + 8 := by rw [← hF, frm_len]
      rw [hF] at r35 ⊢
      obtain ⟨T, hTT⟩ : ∃ T, tailOf f fs = T := ⟨_, rfl⟩
      have hTl : T.length ≤ 1000000 := by
        rw [← hTT]; unfold tailOf; rw [List.length_drop, laid_len]
        have := HE.out; omega
      have hbx := HB.out.only oa (fun h => h)
      have htx := HT.out.still oa
      rw [hTT] at hbx htx
      obtain ⟨x0, x1, x2, x3, x4, x5, x6, x7, xz, xl⟩ := hbx.cells
      have hcl := clone_any _ T wxa htx (by omega)
      have RF := Lib.hid r35; have OA := Lib.hid oa; have HCL := Lib.hid hcl; have HF := Lib.hid hF; have HFL := Lib.hid hFl; have HTT := Lib.hid hTT; have HTL := Lib.hid hTl
      clear r35 oa hcl hF hFl hTT hTl eF htx hbx
      go_wp2_with fail
      refine HCL.out.mono ?_
      rintro e w2 ⟨v2, rfl, h2, o2⟩
      have H2 := Lib.hid h2; have O2 := Lib.hid (OA.out.trans o2); have RF2 := Lib.hid (RF.out.still o2)
      have hsz2 : wxa.heap.size ≤ w2.heap.size := o2.size
      have HSZ2 := Lib.hid hsz2
      clear h2 o2 hsz2 x0 x1 x2 x3 x4 x5 x6 x7 xz
      go_wp2_with ((refine wpList_append8 (o := ⟨some 42, _, _, _, _, _⟩) rfl (.tmp 40) (.tmp 41) (by rfl) wxa.heap.size _ _ T F (by rfl) (by rfl) H2.out RF2.out.bytes (by have := HTL.out; have := HFL.out; omega) HSZ2.out ?_; intro Bb aB cB w3 hBb h3 g3))
      have hO3 : Only (fun _ => False) w w3 := g3.out.step O2.out (fun k hk => .inr (by have := (H2.out.ge hk).1; have := OA.out.size; omega))
      have hBB : Bb = apnB f fs p := by rw [hBb.out]; unfold apnB; rw [HTT.out, HF.out]
      have hNl := apnB_len f fs p
      rw [← hBB, HE.out] at hNl
      have hown : ∀ k, (Value.slice aB Bb.length cB).ownBlock = some k → w.heap.size ≤ k ∧ k < w3.heap.size := fun k hk => by
        have := h3.out.ge hk; have := OA.out.size; omega
      have hb3 := HB.out.only hO3 (fun h => h)
      have hd3 : DX W (fun k => X k ∨ (w.heap.size ≤ k ∧ k < w3.heap.size)) w3 d V m q := H.out.more hO3 (fun _ _ h => h.elim) (fun k h => h)
      obtain ⟨Y, hYY⟩ : ∃ Y : Nat → Prop, Y = fun k => X k ∨ (w.heap.size ≤ k ∧ k < w3.heap.size) := ⟨_, rfl⟩
      rw [← hYY] at hd3
      have hYl : Y l := by rw [hYY]; exact .inl HHX.out
      have hYp : ∀ k, w.heap.size ≤ k → k < w3.heap.size → Y k := fun k h1 h2 => by rw [hYY]; exact .inr ⟨h1, h2⟩
      have hYX : ∀ k, X k → Y k := fun k h => by rw [hYY]; exact .inl h
      obtain ⟨N, hN⟩ : ∃ N, Bb.length = N := ⟨_, rfl⟩
      rw [hN] at hNl
      have HO3 := Lib.hid hO3; have HBB := Lib.hid hBB; have HOWN := Lib.hid hown; have HB3 := Lib.hid hb3; have HD3 := Lib.hid hd3; have HYL := Lib.hid hYl; have HYP := Lib.hid hYp; have HYX := Lib.hid hYX; have HNN := Lib.hid hN; have HPB := Lib.hid h3.out.bytes
      clear hO3 hBB hown hd3 hYY hYl hYp hYX h3 g3 hBb H2 RF2 HSZ2
      obtain ⟨x0, x1, x2, x3, x4, x5, x6, x7, xz, xl⟩ := hb3.cells
      rw [G.out.en, HE.out] at x6
      have hfq := fun w' (h' : Box w' l d f (.slice a (tailOf f fs).length c)) => first_q w' l d f _ f.side h' G.out.ok G.out.ok.side
      obtain ⟨S, hSS⟩ : ∃ S, f.first f.side = S := ⟨_, rfl⟩
      rw [hSS] at hfq
      have hSb := (G.out.toPre).first_le f.side G.out.ok.side
      rw [hSS] at hSb
      have hVl := G.out.len
      have hS1 : (S : Int) ≤ 100000 := by omega
      have hS0 : (0 : Int) ≤ (S : Int) := by omega
      have hE0 : (0 : Int) ≤ (E : Int) := by omega
      have hE1 : (E : Int) ≤ 1000000 := by omega
      have z1 : IntKind.i64.wrap ((S : Int) + (E : Int) / 64) = (S : Int) + (E : Int) / 64 := by rw [IntKind.wrap_i64]; omega
      have HFQ := Lib.hid hfq; have HSS := Lib.hid hSS
      rw [hN]
      clear hfq hSS hb3 hN t1 t2 hVl
      go_upto_region 9 with (fail)
      go_quiet ((go_at_call 59; exact Calls.quiet_of (HFQ.out _ (HB3.out.only ((Only.refl (fun _ => False) _).drewN _) (fun h => h)))))
      have eA : (S : Int) + (E : Int) / 64 = ((S + E / 64 : Nat) : Int) := by omega
      rw [eA]
      obtain ⟨A, hA⟩ : ∃ A, S + E / 64 = A := ⟨_, rfl⟩
      rw [hA]
      have hA1 : (A : Int) ≤ 200000 := by omega
      have hA0 : (0 : Int) ≤ (A : Int) := by omega
      have hAC : A + (N + 63) / 64 ≤ V.length := by omega
      have HA := Lib.hid hA; have HAC := Lib.hid hAC; have HNL := Lib.hid hNl
      have hNN1 : (N : Int) ≤ 1000000 := by omega
      have hNN0 : (0 : Int) ≤ (N : Int) := by omega
      have hD4 := Lib.hid (HD3.out.still ((Only.refl (fun _ => False) w3).drewN nq))
      clear eA hA hAC z1 hSb x0 x1 x2 x3 x4 x5 x6 x7 xz
      go_wp2_with fail
      go_loopw [8] (fun v8 wr => ∃ (k : Nat) (q' : Bool), v8 = .int .i64 ((k : Int) * 64) ∧ k ≤ (N + 63) / 64 ∧ Hid (DX W Y wr d (putc V A Bb k) (m + k) q') ∧ Hid (Only (fun k => W.heap.size ≤ k ∧ ¬ Y k) w3 wr)) (fun v _ => 2000000 - (intOf v).toNat)
      case atStart => exact ⟨0, q, by simp, by omega, hD4, Lib.hid ((Only.refl _ w3).drewN nq)⟩
      case round =>
        obtain ⟨k, q', rfl, hk, HDk, HOk⟩ := hrel
        by_cases hkl : k * 64 < N
        · have t1 : decide ((k : Int) * 64 < (N : Int)) = true := by simp; omega
          have hkk0 : (0 : Int) ≤ (k : Int) := by omega
          have hkk1 : (k : Int) ≤ 20000 := by omega
          have hk3 : (k : Int) * 64 ≤ 1000000 := by omega
          have hk4 : (0 : Int) ≤ (k : Int) * 64 := by omega
          have hk5 : (k : Int) * 64 / 64 = (k : Int) := by omega
          obtain ⟨hi, hhi⟩ : ∃ hi, min (k * 64 + 64) N = hi := ⟨_, rfl⟩
          have hmin2 : (if (N : Int) < (k : Int) * 64 + 64 then (N : Int) else (k : Int) * 64 + 64) = (hi : Int) := by split <;> omega
          have hhl : hi ≤ Bb.length := by rw [HNN.out]; omega
          have hlo : k * 64 ≤ hi := by omega
          have hch : (Bb.take hi).drop (k * 64) = chunk Bb k := by
            have := chunk_eq Bb k
            rw [HNN.out, Nat.min_eq_left (show k * 64 ≤ N by omega), hhi] at this; exact this
          have hpb : Bytes wr (.slice aB Bb.length cB) Bb := HPB.out.only HOk.out (fun hp q hq h => h.2 (HYP.out q (HOWN.out q hq).1 (HOWN.out q hq).2))
          obtain ⟨aC, cC, hC, hbC, hoC⟩ := cutB hpb (k * 64) hi hlo hhl .i64 .i64
          rw [HNN.out] at hC hoC
          rw [hch] at hbC
          have e64 : ((k * 64 : Nat) : Int) = (k : Int) * 64 := by omega
          rw [e64] at hC
          have hoY : ∀ q, (Value.slice aC (hi - k * 64) cC).ownBlock = some q → Y q := fun q hq => by
            have hx := hoC q hq
            rw [← HNN.out] at hx
            exact HYP.out q (HOWN.out q hx).1 (HOWN.out q hx).2
          have hbx := HB3.out.only HOk.out (fun h => h.2 HYL.out)
          have hfa : ∀ w', Only (fun _ => False) wr w' → Box w' l d f (.slice a (tailOf f fs).length c) ∧ Bytes w' (.slice aC (hi - k * 64) cC) (chunk Bb k) ∧ DX W Y w' d (putc V A Bb k) (m + k) q' := fun w' o => ⟨hbx.only o (fun h => h), hbC.still o, HDk.out.still o⟩
          have hSk : A + k < (putc V A Bb k).length := by rw [putc_len]; have := HAC.out; omega
          have HFA := Lib.hid hfa; have HHC := Lib.hid hC; have HOY := Lib.hid hoY; have HSK := Lib.hid hSk; have HM2 := Lib.hid hmin2
          clear hfa hC hoC hoY hSk hmin2 hbC hpb hbx hch hhi e64
          go_upto_region 13 with (fail)
          refine wp_region_stepsM 17 (by kernel_rfl) rfl (by kernel_rfl) [some 61, some 62, some 63, some 64, some 65, some 66, some 67, some 68, some 69, some 70, some 71, some 72, some 73, some 74, some 75, some 76, some 77] rfl rfl 16 18 (fun k => W.heap.size ≤ k ∧ ¬ Y k) (fun _ => False) [17] (by kernel_rfl) [0, 1, 2, 3, 4, 5, 6, 7, 8, 9, 10, 11, 12, 13, 14, 15] (by kernel_rfl) (by decide) (by decide) (.inl (by decide)) [(fun v _ => v = (.pointer (some ⟨l, 0, none⟩))), (fun v _ => v = (.pointer (some ⟨l, 0, none⟩))), (fun v _ => v = (.pointer (some ⟨l, 0, none⟩))), (fun v _ => v = (.pointer (some ⟨d, 0, none⟩))), (fun v _ => v = (.int .i64 (A : Int))), (fun v _ => v = (.int .i64 ((k : Int) * 64))), (fun v _ => v = (.int .i64 (k : Int))), (fun v _ => v = (.int .i64 ((A : Int) + (k : Int)))), (fun v _ => v = (.slice aB N cB)), (fun v _ => v = (.int .i64 ((k : Int) * 64))), (fun v _ => v = (.int .i64 ((k : Int) * 64))), (fun v _ => v = (.int .i64 ((k : Int) * 64 + 64))), (fun v _ => v = (.slice aB N cB)), (fun v _ => v = (.int .i64 (N : Int))), (fun v _ => v = (.int .i64 (hi : Int))), (fun v _ => v = (.slice aC (hi - k * 64) cC)), (fun v w1 => v = .int .i64 0 ∧ DX W Y w1 d (putc V A Bb (k + 1)) (m + (k + 1)) false)] rfl ⟨?_, ?_, ?_, ?_, ?_, ?_, ?_, ?_, ?_, ?_, ?_, ?_, ?_, ?_, ?_, ?_, ?_, trivial⟩ _ rfl ⟨?_, ?_, ?_, ?_, ?_, ?_, ?_, ?_, ?_, ?_, ?_, ?_, ?_, ?_, ?_, ?_, ?_, trivial⟩ ?_
          · exact Stable.is _ _
          · exact Stable.is _ _
          · exact Stable.is _ _
          · exact Stable.is _ _
          · exact Stable.is _ _
          · exact Stable.is _ _
          · exact Stable.is _ _
          · exact Stable.is _ _
          · exact Stable.is _ _
          · exact Stable.is _ _
          · exact Stable.is _ _
          · exact Stable.is _ _
          · exact Stable.is _ _
          · exact Stable.is _ _
          · exact Stable.is _ _
          · exact Stable.is _ _
          · intro v w1 w2 h ho
            have ho : Only (fun _ => False) w1 w2 := ho
            exact (by exact ⟨h.1, h.2.still ho⟩)
          · intro x wx ox hN TT HTT
            have ox : Only (fun _ => False) _ wx := ox
            clear hN
            unfold StepTo
            simp only [putAll, Act.put, List.setIfInBounds_toArray, List.set_cons_succ, List.set_cons_zero]
            go_wp2_with fail
            exact ⟨rfl, _, rfl, HTT.out _ _ (rfl) (Only.refl _ _)⟩
          · intro x wx ox hN TT HTT
            have ox : Only (fun _ => False) _ wx := ox
            have r61 : x 0 = (.pointer (some ⟨l, 0, none⟩)) := hN.1 rfl
            clear hN
            unfold StepTo
            simp only [putAll, Act.put, List.setIfInBounds_toArray, List.set_cons_succ, List.set_cons_zero, r61]
            clear r61
            go_wp2_with fail
            exact ⟨rfl, _, rfl, HTT.out _ _ (rfl) (Only.refl _ _)⟩
          · intro x wx ox hN TT HTT
            have ox : Only (fun _ => False) _ wx := ox
            have r62 : x 1 = (.pointer (some ⟨l, 0, none⟩)) := hN.1 rfl
            clear hN
            unfold StepTo
            simp only [putAll, Act.put, List.setIfInBounds_toArray, List.set_cons_succ, List.set_cons_zero, r62]
            clear r62
            go_wp2_with fail
            exact ⟨rfl, _, rfl, HTT.out _ _ (rfl) (Only.refl _ _)⟩
          · intro x wx ox hN TT HTT
            have ox : Only (fun _ => False) _ wx := ox
            have r63 : x 2 = (.pointer (some ⟨l, 0, none⟩)) := hN.1 rfl
            clear hN
            unfold StepTo
            simp only [putAll, Act.put, List.setIfInBounds_toArray, List.set_cons_succ, List.set_cons_zero, r63]
            clear r63
            obtain ⟨d0, _, d2, d3, d4, _, _, _, _, _⟩ := (HFA.out wx (((Only.refl _ wr).drew).trans ox)).1.cells
            go_wp2_with fail
            exact ⟨rfl, _, rfl, HTT.out _ _ (rfl) (Only.refl _ _)⟩
          · intro x wx ox hN TT HTT
            have ox : Only (fun _ => False) _ wx := ox
            clear hN
            unfold StepTo
            simp only [putAll, Act.put, List.setIfInBounds_toArray, List.set_cons_succ, List.set_cons_zero]
            go_wp2_with fail
            exact ⟨rfl, _, rfl, HTT.out _ _ (rfl) (Only.refl _ _)⟩
          · intro x wx ox hN TT HTT
            have ox : Only (fun _ => False) _ wx := ox
            clear hN
            unfold StepTo
            simp only [putAll, Act.put, List.setIfInBounds_toArray, List.set_cons_succ, List.set_cons_zero]
            go_wp2_with fail
            exact ⟨rfl, _, rfl, HTT.out _ _ (rfl) (Only.refl _ _)⟩
          · intro x wx ox hN TT HTT
            have ox : Only (fun _ => False) _ wx := ox
            have r66 : x 5 = (.int .i64 ((k : Int) * 64)) := hN.1 rfl
            clear hN
            unfold StepTo
            simp only [putAll, Act.put, List.setIfInBounds_toArray, List.set_cons_succ, List.set_cons_zero, r66]
            clear r66
            go_wp2_with fail
            exact ⟨rfl, _, rfl, HTT.out _ _ (rfl) (Only.refl _ _)⟩
          · intro x wx ox hN TT HTT
            have ox : Only (fun _ => False) _ wx := ox
            have r65 : x 4 = (.int .i64 (A : Int)) := hN.1 rfl
            have r67 : x 6 = (.int .i64 (k : Int)) := hN.2.1 rfl
            clear hN
            unfold StepTo
            simp only [putAll, Act.put, List.setIfInBounds_toArray, List.set_cons_succ, List.set_cons_zero, r65, r67]
            clear r65 r67
            go_wp2_with fail
            exact ⟨rfl, _, rfl, HTT.out _ _ (rfl) (Only.refl _ _)⟩
          · intro x wx ox hN TT HTT
            have ox : Only (fun _ => False) _ wx := ox
            clear hN
            unfold StepTo
            simp only [putAll, Act.put, List.setIfInBounds_toArray, List.set_cons_succ, List.set_cons_zero]
            go_wp2_with fail
            exact ⟨rfl, _, rfl, HTT.out _ _ (rfl) (Only.refl _ _)⟩
          · intro x wx ox hN TT HTT
            have ox : Only (fun _ => False) _ wx := ox
            clear hN
            unfold StepTo
            simp only [putAll, Act.put, List.setIfInBounds_toArray, List.set_cons_succ, List.set_cons_zero]
            go_wp2_with fail
            exact ⟨rfl, _, rfl, HTT.out _ _ (rfl) (Only.refl _ _)⟩
          · intro x wx ox hN TT HTT
            have ox : Only (fun _ => False) _ wx := ox
            clear hN
            unfold StepTo
            simp only [putAll, Act.put, List.setIfInBounds_toArray, List.set_cons_succ, List.set_cons_zero]
            go_wp2_with fail
            exact ⟨rfl, _, rfl, HTT.out _ _ (rfl) (Only.refl _ _)⟩
          · intro x wx ox hN TT HTT
            have ox : Only (fun _ => False) _ wx := ox
            have r71 : x 10 = (.int .i64 ((k : Int) * 64)) := hN.1 rfl
            clear hN
            unfold StepTo
            simp only [putAll, Act.put, List.setIfInBounds_toArray, List.set_cons_succ, List.set_cons_zero, r71]
            clear r71
            go_wp2_with fail
            exact ⟨rfl, _, rfl, HTT.out _ _ (rfl) (Only.refl _ _)⟩
          · intro x wx ox hN TT HTT
            have ox : Only (fun _ => False) _ wx := ox
            clear hN
            unfold StepTo
            simp only [putAll, Act.put, List.setIfInBounds_toArray, List.set_cons_succ, List.set_cons_zero]
            go_wp2_with fail
            exact ⟨rfl, _, rfl, HTT.out _ _ (rfl) (Only.refl _ _)⟩
          · intro x wx ox hN TT HTT
            have ox : Only (fun _ => False) _ wx := ox
            have r73 : x 12 = (.slice aB N cB) := hN.1 rfl
            clear hN
            unfold StepTo
            simp only [putAll, Act.put, List.setIfInBounds_toArray, List.set_cons_succ, List.set_cons_zero, r73]
            clear r73
            go_wp2_with fail
            exact ⟨rfl, _, rfl, HTT.out _ _ (rfl) (Only.refl _ _)⟩
          · intro x wx ox hN TT HTT
            have ox : Only (fun _ => False) _ wx := ox
            have r72 : x 11 = (.int .i64 ((k : Int) * 64 + 64)) := hN.1 rfl
            have r74 : x 13 = (.int .i64 (N : Int)) := hN.2.1 rfl
            clear hN
            unfold StepTo
            simp only [putAll, Act.put, List.setIfInBounds_toArray, List.set_cons_succ, List.set_cons_zero, r72, r74]
            clear r72 r74
            have hm2 := HM2.out
            go_wp2_with fail
            exact ⟨rfl, _, rfl, HTT.out _ _ (rfl) (Only.refl _ _)⟩
          · intro x wx ox hN TT HTT
            have ox : Only (fun _ => False) _ wx := ox
            have r69 : x 8 = (.slice aB N cB) := hN.1 rfl
            have r70 : x 9 = (.int .i64 ((k : Int) * 64)) := hN.2.1 rfl
            have r75 : x 14 = (.int .i64 (hi : Int)) := hN.2.2.1 rfl
            clear hN
            unfold StepTo
            simp only [putAll, Act.put, List.setIfInBounds_toArray, List.set_cons_succ, List.set_cons_zero, r69, r70, r75]
            clear r69 r70 r75
            have hs := HHC.out wx
            go_wp2_with fail
            exact ⟨rfl, _, rfl, HTT.out _ _ (rfl) (Only.refl _ _)⟩
          · intro x wx ox hN TT HTT
            have ox : Only (fun _ => False) _ wx := ox
            have r64 : x 3 = (.pointer (some ⟨d, 0, none⟩)) := hN.1 rfl
            have r68 : x 7 = (.int .i64 ((A : Int) + (k : Int))) := hN.2.1 rfl
            have r76 : x 15 = (.slice aC (hi - k * 64) cC) := hN.2.2.1 rfl
            clear hN
            unfold StepTo
            simp only [putAll, Act.put, List.setIfInBounds_toArray, List.set_cons_succ, List.set_cons_zero, r64, r68, r76]
            clear r64 r68 r76
            have hf := HFA.out wx (((Only.refl _ wr).drew).trans ox)
            have hc := write_v W Y d (m + k) (putc V A Bb k) q' (A + k) _ _ wx hf.2.2 HSK.out hf.2.1 (chunk_len Bb k) (fun _ k hk => .inr (HOY.out k hk)) (by have := HM.out; omega)
            rw [Int.natCast_add] at hc
            have HC := Lib.hid hc; clear hc hf
            go_wp2_with fail
            refine HC.out.mono ?_
            rintro e w6 ⟨rfl, h6, o6⟩
            have H6 := Lib.hid h6; have O6 := Lib.hid o6; clear h6 o6
            go_wp2_with fail
            exact ⟨rfl, _, rfl, HTT.out _ _ (⟨rfl, H6.out⟩) (O6.out)⟩
          intro xb wxb oxb hN
          have oxb : Only (fun q => (fun k => W.heap.size ≤ k ∧ ¬ Y k) q ∨ (fun _ => False) q) _ wxb := oxb
          have r61 : xb 0 = (.pointer (some ⟨l, 0, none⟩)) := hN.1
          have r62 : xb 1 = (.pointer (some ⟨l, 0, none⟩)) := hN.2.1
          have r63 : xb 2 = (.pointer (some ⟨l, 0, none⟩)) := hN.2.2.1
          have r64 : xb 3 = (.pointer (some ⟨d, 0, none⟩)) := hN.2.2.2.1
          have r65 : xb 4 = (.int .i64 (A : Int)) := hN.2.2.2.2.1
          have r66 : xb 5 = (.int .i64 ((k : Int) * 64)) := hN.2.2.2.2.2.1
          have r67 : xb 6 = (.int .i64 (k : Int)) := hN.2.2.2.2.2.2.1
          have r68 : xb 7 = (.int .i64 ((A : Int) + (k : Int))) := hN.2.2.2.2.2.2.2.1
          have r69 : xb 8 = (.slice aB N cB) := hN.2.2.2.2.2.2.2.2.1
          have r70 : xb 9 = (.int .i64 ((k : Int) * 64)) := hN.2.2.2.2.2.2.2.2.2.1
          have r71 : xb 10 = (.int .i64 ((k : Int) * 64)) := hN.2.2.2.2.2.2.2.2.2.2.1
          have r72 : xb 11 = (.int .i64 ((k : Int) * 64 + 64)) := hN.2.2.2.2.2.2.2.2.2.2.2.1
          have r73 : xb 12 = (.slice aB N cB) := hN.2.2.2.2.2.2.2.2.2.2.2.2.1
          have r74 : xb 13 = (.int .i64 (N : Int)) := hN.2.2.2.2.2.2.2.2.2.2.2.2.2.1
          have r75 : xb 14 = (.int .i64 (hi : Int)) := hN.2.2.2.2.2.2.2.2.2.2.2.2.2.2.1
          have r76 : xb 15 = (.slice aC (hi - k * 64) cC) := hN.2.2.2.2.2.2.2.2.2.2.2.2.2.2.2.1
          have r77 : (fun (v : Value) (w1 : World) => v = .int .i64 0 ∧ DX W Y w1 d (putc V A Bb (k + 1)) (m + (k + 1)) false) (xb 16) wxb := hN.2.2.2.2.2.2.2.2.2.2.2.2.2.2.2.2.1
          clear hN
          simp only [putAll, Act.put, List.setIfInBounds_toArray, List.set_cons_succ, List.set_cons_zero, r61, r62, r63, r64, r65, r66, r67, r68, r69, r70, r71, r72, r73, r74, r75, r76]
          clear r61 r62 r63 r64 r65 r66 r67 r68 r69 r70 r71 r72 r73 r74 r75 r76
          obtain ⟨e1, hdk⟩ := r77
          rw [e1]
          have hoa : Only (fun k => W.heap.size ≤ k ∧ ¬ Y k) w3 wxb := HOk.out.trans (((Only.refl (fun k => W.heap.size ≤ k ∧ ¬ Y k) wr).drew).trans (oxb.mono (fun k _ h => h.resolve_right (fun h => h))))
          have HDK := Lib.hid hdk; have HOA := Lib.hid hoa
          clear e1 hdk hoa
          go_wp2_with fail
          go_roundw
          case rel => exact ⟨k + 1, false, by simp [go_sem]; omega, by omega, HDK, HOA⟩
          case measure => simp [intOf]; omega
        · have t1 : decide ((k : Int) * 64 < (N : Int)) = false := by simp; omega
          have hkC : k = (N + 63) / 64 := by omega
          have hV9 : putc V A Bb k = apnV V f fs p := by
            unfold apnV apnN
            rw [hkC, HSS.out, HE.out, HA.out, ← HBB.out, HNN.out]
          have hDk := HDk.out
          rw [hV9] at hDk
          have hbx := HB3.out.only HOk.out (fun h => h.2 HYL.out)
          obtain ⟨d0, _, d2, d3, d4, _, _, _, _, _⟩ := hbx.cells
          have hvl : (apnV V f fs p).length = V.length := putc_len _ _ _ _
          have hsy := sync_v W Y d (m + k) (apnV V f fs p) q' wr hDk (by rw [hvl]; have := G.out.geo; have := G.out.ok.half; omega) (by have := HM.out; omega)
          have HSY := Lib.hid hsy; have HKC := Lib.hid hkC
          clear hsy hvl hDk hV9 hbx hkC hk hkl
          obtain ⟨wq, rfl⟩ : ∃ wq, wq = wr := ⟨wr, rfl⟩
          go_wp2_with fail
          refine HSY.out.mono ?_
          rintro e w7 ⟨rfl, h7, o7⟩
          have ho7 := HOk.out.trans o7
          have hb7 := HB3.out.only ho7 (fun h => h.2 HYL.out)
          obtain ⟨x0, x1, x2, x3, x4, x5, x6, x7, xz, xl⟩ := hb7.cells
          have hp7 : Bytes w7 (.slice aB Bb.length cB) Bb := HPB.out.only ho7 (fun hp q hq h => h.2 (HYP.out q (HOWN.out q hq).1 (HOWN.out q hq).2))
          obtain ⟨aT, cT, hT, hbT, hoT⟩ := cutFrom hp7 (N / 64 * 64) (by rw [HNN.out]; omega) .i64
          rw [HNN.out] at hT hbT hoT
          have eN : ((N / 64 * 64 : Nat) : Int) = (N : Int) / 64 * 64 := by omega
          rw [eN] at hT
          obtain ⟨t, htt⟩ : ∃ t, t = Bb.drop (N / 64 * 64) := ⟨_, rfl⟩
          have htl : t.length = N - N / 64 * 64 := by rw [htt, List.length_drop, HNN.out]
          rw [← htt] at hbT
          rw [← htl] at hbT hT
          have hcl := clone_any _ t w7 hbT (by rw [htl]; omega)
          have ho8 : Only (fun k => W.heap.size ≤ k ∧ (¬ X k ∨ k = l)) w w7 :=
            (HO3.out.mono (T := fun k => W.heap.size ≤ k ∧ (¬ X k ∨ k = l)) (fun _ _ h => h.elim)).trans (ho7.mono (fun k _ h => ⟨h.1, .inl (fun hx => h.2 (HYX.out k hx))⟩))
          have HD8 := Lib.hid h7; have HHT := Lib.hid hT; have HCL := Lib.hid hcl; have O8 := Lib.hid ho8; have HTL2 := Lib.hid htl; have HTT2 := Lib.hid htt; have HB7 := Lib.hid hb7
          clear h7 hT hbT hoT eN htl hcl ho8 hp7 ho7 o7 htt hb7 d0 d2 d3 d4
          have hn2 : (N : Int) / 64 * 64 ≤ (N : Int) := by omega
          have hn3 : (0 : Int) ≤ (N : Int) / 64 * 64 := by omega
          have hsT := HHT.out
          clear x0 x1 x2 x3 x4 x5 x6 x7 xz
          go_wp2_with fail
          refine HCL.out.mono ?_
          rintro e w9 ⟨v9, rfl, h9, o9⟩
          obtain ⟨a9, c9, rfl⟩ := h9.form
          have hb9 := HB7.out.only o9 (fun h => h)
          obtain ⟨x0, x1, x2, x3, x4, x5, x6, x7, xz, xl⟩ := hb9.cells
          rw [G.out.en, HE.out] at x6
          rw [G.out.n] at x7
          have hbF := ((hb9.setTail (.slice a9 t.length c9)).setEn (E + (p.length + 8))).setN (fs.length + 1)
          have ht9 : ∀ k, (Value.slice a9 t.length c9).ownBlock = some k → w7.heap.size ≤ k ∧ k < w9.heap.size := fun k hk => h9.ge hk
          have hoF := ((((Only.refl (fun k => k = l) w9).setCell (p := ⟨l, 5, none⟩) (.inl rfl) (.slice a9 t.length c9))).setCell (p := ⟨l, 6, none⟩) (.inl rfl) (.int .i64 ((E + (p.length + 8) : Nat) : Int))).setCell (p := ⟨l, 7, none⟩) (.inl rfl) (.int .i64 ((fs.length + 1 : Nat) : Int))
          have eE : ((E + (p.length + 8) : Nat) : Int) = (E : Int) + (F.length : Int) := by rw [HFL.out]; omega
          have eR : ((fs.length + 1 : Nat) : Int) = (fs.length : Int) + 1 := by omega
          rw [eE, eR] at hbF hoF
          have hl8 : l < w7.heap.size := (Array.getElem?_eq_some_iff.1 HB7.out).1
          obtain ⟨w10, hw10⟩ : ∃ w10, w10 = ((w9.setCell ⟨l, 5, none⟩ (.slice a9 t.length c9)).setCell ⟨l, 6, none⟩ (.int .i64 ((E : Int) + (F.length : Int)))).setCell ⟨l, 7, none⟩ (.int .i64 ((fs.length : Int) + 1)) := ⟨_, rfl⟩
          rw [← hw10] at hbF hoF
          have hbtF := h9.bytes.only hoF (fun _ k hk e => by have := (ht9 k hk).1; omega)
          have hdF : DX W (fun k => X k ∨ (Value.slice a9 t.length c9).ownBlock = some k) w10 d (apnV V f fs p) (m + 100) true := by
            refine ((HD8.out.step (n := m + 100) (by have := HKC.out; have := HNL.out; have := HP4.out; omega) (by have := HM.out; omega) (fun h => h)).more (Y := fun k => X k ∨ (Value.slice a9 t.length c9).ownBlock = some k) o9 (fun _ _ h => h.elim) (fun k h => ?_)).only hoF (fun k _ e => ?_)
            · rcases h with h | h
              · exact .inl (HYX.out k h)
              · exact .inr (ht9 k h)
            · subst e; exact ⟨HLW.out, .inl HHX.out⟩
          have hoZ : Only (fun k => W.heap.size ≤ k ∧ (¬ X k ∨ k = l)) w w10 := by
            refine (O8.out.trans (o9.mono (fun _ _ h => h.elim))).trans (hoF.mono (fun k _ e => ?_))
            subst e; exact ⟨HLW.out, .inr rfl⟩
          have hfin : ApnPost W X d m V l f fs p w (.returned (.int .i64 0)) w10 := by
            refine .inr (.inr ⟨HP4.out, by rw [HR.out, HE.out]; omega, rfl, a9, c9, ?_⟩)
            have et : tailOf (f.apn p) (fs ++ [p]) = t := by rw [tail_apn, ← HBB.out, HNN.out, ← HTT2.out]
            simp only [et]
            refine ⟨?_, hbtF, fun k hk => ⟨Nat.le_trans O8.out.size (ht9 k hk).1, Nat.lt_of_lt_of_le (ht9 k hk).2 hoF.size⟩, hdF, hoZ⟩
            have e : f.apn p = { f with en := E + (p.length + 8), n := fs.length + 1 } := by
              unfold Fl.apn; rw [G.out.en, HE.out, G.out.n]
            rw [e]; exact hbF
          have HFIN := Lib.hid hfin; have HW10 := Lib.hid hw10
          clear hfin hoZ hdF hbtF hoF ht9 hbF hb9 h9 o9 hl8 hw10 eE eR
          have hF0 : (0 : Int) ≤ (F.length : Int) := by omega
          have hF1 : (F.length : Int) ≤ 200000 := by have := HFL.out; omega
          go_wp2_with fail
          go_ret
          rw [← HW10.out]
          exact HFIN.out
end Go.Proofs.Ytlkglhgndfhjeaa
