/- Package link: EncodeAsk. -/
import Derived.Test.YtoojnpafcdaflaaLet
namespace Go.Proofs.Ytoojnpafcdaflaa
open Go Go.RowKit
set_option linter.unusedVariables false
set_option linter.unusedSimpArgs false
set_option maxRecDepth 100000

theorem range7 {w : World} {b off : Nat} {c0 c1 c2 c3 c4 c5 c6 : Value} (h : w.rangeAt b off [c0, c1, c2, c3, c4, c5, c6]) :
    w.cell? ⟨b, off, none⟩ = some c0 ∧ w.cell? ⟨b, off + 1, none⟩ = some c1 ∧ w.cell? ⟨b, off + 2, none⟩ = some c2 ∧ w.cell? ⟨b, off + 2 + 1, none⟩ = some c3 ∧ w.cell? ⟨b, off + 2 + 2, none⟩ = some c4 ∧ w.cell? ⟨b, off + 2 + 3, none⟩ = some c5 ∧ w.cell? ⟨b, off + 2 + 4, none⟩ = some c6 :=
  ⟨h 0 _ rfl, h 1 _ rfl, h 2 _ rfl, h 3 _ rfl, h 4 _ rfl, h 5 _ rfl, h 6 _ rfl⟩
theorem abox (w : World) (e0 e1 e2 e3 : Value) : ∃ wb, wb = (w.alloc (.cells #[e0, e1, e2, e3] 89)).alloc (.cells #[.slice none 0 0] 26) ∧ Only (fun _ => False) w wb ∧ wb.heap.size = w.heap.size + 2 ∧ WS (fun q => q = w.heap.size + 1) (w.heap.size + 1) wb [] wb ∧
    ∀ (S : Nat → Prop) w', Only S wb w' → ¬ S w.heap.size → w'.heap[w.heap.size]? = some (.cells #[e0, e1, e2, e3] 89 (0, 0)) := by
  refine ⟨_, rfl, ((Only.refl _ w).alloc _).alloc _, by simp, ?_, fun S w' ho hS => ?_⟩
  · have h := heap_new (w.alloc (.cells #[e0, e1, e2, e3] 89)) (.cells #[.slice none 0 0] 26)
    rw [World.size_alloc] at h
    exact WS.new h
  · have h := heap_old (heap_new w (.cells #[e0, e1, e2, e3] 89)) (.cells #[.slice none 0 0] 26)
    rw [ho.block _ (Array.getElem?_eq_some_iff.1 h).1 hS]; exact h
set_option maxHeartbeats 8000000 in
theorem wEncAsk (a : AskV) (G : Nat → Prop) (w : World) (cs : List Value) (h : AskAt w G a cs) (hG : ∀ q, G q → q < w.heap.size) (hE : ∀ x ∈ a.ms, GoodV x.2.2 ∧ (encV x.2.2).length ≤ 1000000)
    (hk : a.ks.length ≤ 1000000 ∧ a.ms.length ≤ 1000000) (hl : (encAsk a).length ≤ 100000000) :
    Calls Try.prog 53 #[.agg cs.toArray] w (Makes w (sealed (encAsk a))) := by
  obtain ⟨c, ks, since, xs⟩ := a
  obtain ⟨ak, ck, ax, cx, rfl, h1, h2, h5, h6, h8, h9⟩ := h
  simp only at h1 h2 h5 h6 h8 h9 hE hk ⊢
  obtain ⟨hk1, hk2⟩ := hk
  obtain ⟨wb, hwb, ob, hsz, hws, hbx⟩ := abox w (.int .i64 c) (.slice ak ks.length ck) (.int .u64 since) (.slice ax xs.length cx)
  have hlens : (encU 1).length + (encU c).length + (encQ encT ks).length + (encU since).length + (encU xs.length).length + (encF encM1 xs).length = (encAsk ⟨c, ks, since, xs⟩).length := by
    unfold encAsk
    simp only [List.length_append]
    rw [show (encQ encM1 xs).length = (encU xs.length).length + (encF encM1 xs).length from by unfold encQ; rw [List.length_append]]
    omega
  rw [← hlens] at hl
  have hfull : encAsk ⟨c, ks, since, xs⟩ = encU 1 ++ encU c ++ encQ encT ks ++ encU since ++ encU xs.length ++ encF encM1 xs := by
    unfold encAsk encQ
    simp only [List.append_assoc]
  rw [hfull]
  clear hlens hfull
  have hkeep : ∀ l' w', WS (fun q => q = w.heap.size + 1) (w.heap.size + 1) wb l' w' → w'.heap[w.heap.size]? = some (.cells #[.int .i64 c, .slice ak ks.length ck, .int .u64 since, .slice ax xs.length cx] 89 (0, 0)) ∧ ListAt 1 TextP w' G ak ks ∧ ListAt 7 MutP w' G ax xs := fun l' w' hw => by
    have ho := ob.mono (T := fun q => q = w.heap.size + 1) (fun _ _ h => h.elim) |>.trans hw.only
    have hS : ∀ q, G q → ¬ (q = w.heap.size + 1) := fun q hq => by have := hG q hq; omega
    exact ⟨hbx _ w' hw.only (by omega), h8.only textP_keeps ho hS, h9.only mutP_keeps ho hS⟩
  have hGF : ∀ q, G q → q < wb.heap.size ∧ ¬ (q = w.heap.size + 1) := fun q hq => by have := hG q hq; omega
  have hcells := fun l' w' hw => box4 (hkeep l' w' hw).1
  obtain ⟨n, hn⟩ : ∃ n, n = xs.length := ⟨_, rfl⟩
  unfold Fits maxLen at h5 h6
  have b1 : (0 : Int) ≤ (c : Int) := by omega
  have b2 : (c : Int) ≤ 9223372036854775807 := by omega
  have b3 : (0 : Int) ≤ (n : Int) := by omega
  have b4 : (n : Int) ≤ 1000000 := by omega
  have hwsd : WS (fun q => q = w.heap.size + 1) (w.heap.size + 1) wb [] wb.drew := hws.still (Only.refl _ _).drew
  have hgood : ∀ i (h : i < xs.length), GoodV xs[i].2.2 ∧ (encV xs[i].2.2).length ≤ 1000000 := fun i h => hE _ (List.getElem_mem _)
  rw [← hn] at hl hcells hkeep hwb ⊢
  have HC := Lib.hid hcells; have HKEEP := Lib.hid hkeep; have HGF := Lib.hid hGF; have HWB := Lib.hid hwb; have OB := Lib.hid ob; have HSZ := Lib.hid hsz; have HW0 := Lib.hid hwsd; have HGOOD := Lib.hid hgood; have HL := Lib.hid hl; have HN := Lib.hid hn; have B1 := Lib.hid h1; have B3 := Lib.hid h2; have HK1 := Lib.hid hk1; have HK2 := Lib.hid hk2
  clear hcells hkeep hGF hwb ob hsz hwsd hgood hl hn hws hbx hE h1 h2 h5 h6 h8 h9 hG hk1 hk2
  go_enter Try.func53, Try.ntmps53
  go_wp2_with fail
  rw [← HWB.out]
  refine wp_region_chain 5 (by kernel_rfl) rfl (by kernel_rfl) [some 8, some 9, some 10, some 11, some 12] rfl rfl [1] [none, some 0, none, none, none] (by kernel_rfl) (fun t => match t with | 0 => (fun w' => WS (fun q => q = w.heap.size + 1) (w.heap.size + 1) wb ([]) w') | _ + 1 => (fun w' => WS (fun q => q = w.heap.size + 1) (w.heap.size + 1) wb (encU 1) w') : Nat → World → Prop) (fun w' => w'.cell? ⟨w.heap.size, 0, none⟩ = some (.int .i64 c) ∧ w'.cell? ⟨w.heap.size, 1, none⟩ = some (.slice ak ks.length ck) ∧ w'.cell? ⟨w.heap.size, 2, none⟩ = some (.int .u64 since) ∧ w'.cell? ⟨w.heap.size, 3, none⟩ = some (.slice ax n cx)) (fun t => match t with | 0 => fun w' _ hs => HC.out _ _ hs | _ + 1 => fun w' _ hs => HC.out _ _ hs) (HW0.out) [(fun v => v = (.pointer (some ⟨w.heap.size + 1, 0, none⟩))), (fun v => v = (.pointer (some ⟨w.heap.size + 1, 0, none⟩))), (fun v => v = (.pointer (some ⟨w.heap.size, 0, none⟩))), (fun v => v = (.int .i64 c)), (fun v => v = (.int .u64 c))] rfl _ rfl ⟨?_, ?_, ?_, ?_, ?_, trivial⟩ ?_
  · intro x wx hkx hN TT HTT
    have hkx : (fun w' => w'.cell? ⟨w.heap.size, 0, none⟩ = some (.int .i64 c) ∧ w'.cell? ⟨w.heap.size, 1, none⟩ = some (.slice ak ks.length ck) ∧ w'.cell? ⟨w.heap.size, 2, none⟩ = some (.int .u64 since) ∧ w'.cell? ⟨w.heap.size, 3, none⟩ = some (.slice ax n cx)) wx := hkx
    clear hN
    unfold StepTo
    simp only [putAll, Act.put, List.setIfInBounds_toArray, List.set_cons_succ, List.set_cons_zero]
    go_wp2_with fail
    exact ⟨rfl, _, rfl, HTT.out _ (rfl)⟩
  · intro x wx hst hN TT HTT
    have hst : (fun w' => WS (fun q => q = w.heap.size + 1) (w.heap.size + 1) wb ([]) w') wx := hst
    have r8 : x 0 = (.pointer (some ⟨w.heap.size + 1, 0, none⟩)) := hN.1 rfl
    clear hN
    unfold StepTo
    simp only [putAll, Act.put, List.setIfInBounds_toArray, List.set_cons_succ, List.set_cons_zero, r8]
    clear r8
    go_wp2_with fail
    refine (wUint_s 1 _ _ _ [] _ hst (by decide) (by simp)).mono ?_
    rintro e w7 ⟨rfl, hU1⟩
    rw [List.nil_append] at hU1
    go_wp2_with fail
    exact ⟨rfl, _, rfl, HTT.out _ _ (rfl) (hU1)⟩
  · intro x wx hkx hN TT HTT
    have hkx : (fun w' => w'.cell? ⟨w.heap.size, 0, none⟩ = some (.int .i64 c) ∧ w'.cell? ⟨w.heap.size, 1, none⟩ = some (.slice ak ks.length ck) ∧ w'.cell? ⟨w.heap.size, 2, none⟩ = some (.int .u64 since) ∧ w'.cell? ⟨w.heap.size, 3, none⟩ = some (.slice ax n cx)) wx := hkx
    clear hN
    unfold StepTo
    simp only [putAll, Act.put, List.setIfInBounds_toArray, List.set_cons_succ, List.set_cons_zero]
    go_wp2_with fail
    exact ⟨rfl, _, rfl, HTT.out _ (rfl)⟩
  · intro x wx hkx hN TT HTT
    have hkx : (fun w' => w'.cell? ⟨w.heap.size, 0, none⟩ = some (.int .i64 c) ∧ w'.cell? ⟨w.heap.size, 1, none⟩ = some (.slice ak ks.length ck) ∧ w'.cell? ⟨w.heap.size, 2, none⟩ = some (.int .u64 since) ∧ w'.cell? ⟨w.heap.size, 3, none⟩ = some (.slice ax n cx)) wx := hkx
    have r10 : x 2 = (.pointer (some ⟨w.heap.size, 0, none⟩)) := hN.1 rfl
    clear hN
    unfold StepTo
    simp only [putAll, Act.put, List.setIfInBounds_toArray, List.set_cons_succ, List.set_cons_zero, r10]
    clear r10
    obtain ⟨c0, c1, c2, c3⟩ := hkx
    go_wp2_with fail
    exact ⟨rfl, _, rfl, HTT.out _ (rfl)⟩
  · intro x wx hkx hN TT HTT
    have hkx : (fun w' => w'.cell? ⟨w.heap.size, 0, none⟩ = some (.int .i64 c) ∧ w'.cell? ⟨w.heap.size, 1, none⟩ = some (.slice ak ks.length ck) ∧ w'.cell? ⟨w.heap.size, 2, none⟩ = some (.int .u64 since) ∧ w'.cell? ⟨w.heap.size, 3, none⟩ = some (.slice ax n cx)) wx := hkx
    have r11 : x 3 = (.int .i64 c) := hN.1 rfl
    clear hN
    unfold StepTo
    simp only [putAll, Act.put, List.setIfInBounds_toArray, List.set_cons_succ, List.set_cons_zero, r11]
    clear r11
    go_wp2_with fail
    exact ⟨rfl, _, rfl, HTT.out _ (rfl)⟩
  intro xa wxa hsta hN
  have hsta : (fun w' => WS (fun q => q = w.heap.size + 1) (w.heap.size + 1) wb (encU 1) w') wxa := hsta
  have r8 : xa 0 = (.pointer (some ⟨w.heap.size + 1, 0, none⟩)) := hN.1
  have r9 : xa 1 = (.pointer (some ⟨w.heap.size + 1, 0, none⟩)) := hN.2.1
  have r10 : xa 2 = (.pointer (some ⟨w.heap.size, 0, none⟩)) := hN.2.2.1
  have r11 : xa 3 = (.int .i64 c) := hN.2.2.2.1
  have r12 : xa 4 = (.int .u64 c) := hN.2.2.2.2.1
  clear hN
  simp only [putAll, Act.put, List.setIfInBounds_toArray, List.set_cons_succ, List.set_cons_zero, r8, r9, r10, r11, r12]
  clear r8 r9 r10 r11 r12
  go_wp2_with fail
  refine (wUint_s c _ _ _ (encU 1) _ hsta (by have := B1.out; omega) (by have := HL.out; omega)).mono ?_
  rintro e w3 ⟨rfl, h3⟩
  obtain ⟨c0, c1, c2, c3⟩ := HC.out _ _ h3
  have ht := wTexts ks ak ck _ G _ _ _ _ h3 (HKEEP.out _ _ h3).2.1 HGF.out HK1.out (by have := HL.out; simp only [List.length_append]; omega)
  have HT := Lib.hid ht; clear ht h3 hsta
  go_wp2_with fail
  refine HT.out.mono ?_
  rintro e w4 ⟨rfl, h4⟩
  have h4d := h4.still (Only.refl (fun _ => False) w4).drew
  have H4 := Lib.hid h4d; clear h4d h4 c0 c1 c2 c3
  go_wp2_with fail
  refine wp_region_chain 8 (by kernel_rfl) rfl (by kernel_rfl) [some 18, some 19, some 20, some 21, some 22, some 23, some 24, some 25] rfl rfl [3] [none, none, none, some 0, none, none, none, none] (by kernel_rfl) (fun t => match t with | 0 => (fun w' => WS (fun q => q = w.heap.size + 1) (w.heap.size + 1) wb (encU 1 ++ encU c ++ encQ encT ks) w') | _ + 1 => (fun w' => WS (fun q => q = w.heap.size + 1) (w.heap.size + 1) wb (encU 1 ++ encU c ++ encQ encT ks ++ encU since) w') : Nat → World → Prop) (fun w' => w'.cell? ⟨w.heap.size, 0, none⟩ = some (.int .i64 c) ∧ w'.cell? ⟨w.heap.size, 1, none⟩ = some (.slice ak ks.length ck) ∧ w'.cell? ⟨w.heap.size, 2, none⟩ = some (.int .u64 since) ∧ w'.cell? ⟨w.heap.size, 3, none⟩ = some (.slice ax n cx)) (fun t => match t with | 0 => fun w' _ hs => HC.out _ _ hs | _ + 1 => fun w' _ hs => HC.out _ _ hs) (H4.out) [(fun v => v = (.pointer (some ⟨w.heap.size + 1, 0, none⟩))), (fun v => v = (.pointer (some ⟨w.heap.size, 2, none⟩))), (fun v => v = (.int .u64 since)), (fun v => v = (.pointer (some ⟨w.heap.size + 1, 0, none⟩))), (fun v => v = (.pointer (some ⟨w.heap.size, 3, none⟩))), (fun v => v = (.slice ax n cx)), (fun v => v = (.int .i64 n)), (fun v => v = (.int .u64 n))] rfl _ rfl ⟨?_, ?_, ?_, ?_, ?_, ?_, ?_, ?_, trivial⟩ ?_
  · intro x wx hkx hN TT HTT
    have hkx : (fun w' => w'.cell? ⟨w.heap.size, 0, none⟩ = some (.int .i64 c) ∧ w'.cell? ⟨w.heap.size, 1, none⟩ = some (.slice ak ks.length ck) ∧ w'.cell? ⟨w.heap.size, 2, none⟩ = some (.int .u64 since) ∧ w'.cell? ⟨w.heap.size, 3, none⟩ = some (.slice ax n cx)) wx := hkx
    clear hN
    unfold StepTo
    simp only [putAll, Act.put, List.setIfInBounds_toArray, List.set_cons_succ, List.set_cons_zero]
    go_wp2_with fail
    exact ⟨rfl, _, rfl, HTT.out _ (rfl)⟩
  · intro x wx hkx hN TT HTT
    have hkx : (fun w' => w'.cell? ⟨w.heap.size, 0, none⟩ = some (.int .i64 c) ∧ w'.cell? ⟨w.heap.size, 1, none⟩ = some (.slice ak ks.length ck) ∧ w'.cell? ⟨w.heap.size, 2, none⟩ = some (.int .u64 since) ∧ w'.cell? ⟨w.heap.size, 3, none⟩ = some (.slice ax n cx)) wx := hkx
    clear hN
    unfold StepTo
    simp only [putAll, Act.put, List.setIfInBounds_toArray, List.set_cons_succ, List.set_cons_zero]
    go_wp2_with fail
    exact ⟨rfl, _, rfl, HTT.out _ (rfl)⟩
  · intro x wx hkx hN TT HTT
    have hkx : (fun w' => w'.cell? ⟨w.heap.size, 0, none⟩ = some (.int .i64 c) ∧ w'.cell? ⟨w.heap.size, 1, none⟩ = some (.slice ak ks.length ck) ∧ w'.cell? ⟨w.heap.size, 2, none⟩ = some (.int .u64 since) ∧ w'.cell? ⟨w.heap.size, 3, none⟩ = some (.slice ax n cx)) wx := hkx
    have r19 : x 1 = (.pointer (some ⟨w.heap.size, 2, none⟩)) := hN.1 rfl
    clear hN
    unfold StepTo
    simp only [putAll, Act.put, List.setIfInBounds_toArray, List.set_cons_succ, List.set_cons_zero, r19]
    clear r19
    obtain ⟨c0, c1, c2, c3⟩ := hkx
    go_wp2_with fail
    exact ⟨rfl, _, rfl, HTT.out _ (rfl)⟩
  · intro x wx hst hN TT HTT
    have hst : (fun w' => WS (fun q => q = w.heap.size + 1) (w.heap.size + 1) wb (encU 1 ++ encU c ++ encQ encT ks) w') wx := hst
    have r18 : x 0 = (.pointer (some ⟨w.heap.size + 1, 0, none⟩)) := hN.1 rfl
    have r20 : x 2 = (.int .u64 since) := hN.2.1 rfl
    clear hN
    unfold StepTo
    simp only [putAll, Act.put, List.setIfInBounds_toArray, List.set_cons_succ, List.set_cons_zero, r18, r20]
    clear r18 r20
    go_wp2_with fail
    refine (wUint_s since _ _ _ (encU 1 ++ encU c ++ encQ encT ks) _ hst B3.out (by have := HL.out; simp only [List.length_append]; omega)).mono ?_
    rintro e w7 ⟨rfl, hU1⟩
    go_wp2_with fail
    exact ⟨rfl, _, rfl, HTT.out _ _ (rfl) (hU1)⟩
  · intro x wx hkx hN TT HTT
    have hkx : (fun w' => w'.cell? ⟨w.heap.size, 0, none⟩ = some (.int .i64 c) ∧ w'.cell? ⟨w.heap.size, 1, none⟩ = some (.slice ak ks.length ck) ∧ w'.cell? ⟨w.heap.size, 2, none⟩ = some (.int .u64 since) ∧ w'.cell? ⟨w.heap.size, 3, none⟩ = some (.slice ax n cx)) wx := hkx
    clear hN
    unfold StepTo
    simp only [putAll, Act.put, List.setIfInBounds_toArray, List.set_cons_succ, List.set_cons_zero]
    go_wp2_with fail
    exact ⟨rfl, _, rfl, HTT.out _ (rfl)⟩
  · intro x wx hkx hN TT HTT
    have hkx : (fun w' => w'.cell? ⟨w.heap.size, 0, none⟩ = some (.int .i64 c) ∧ w'.cell? ⟨w.heap.size, 1, none⟩ = some (.slice ak ks.length ck) ∧ w'.cell? ⟨w.heap.size, 2, none⟩ = some (.int .u64 since) ∧ w'.cell? ⟨w.heap.size, 3, none⟩ = some (.slice ax n cx)) wx := hkx
    have r22 : x 4 = (.pointer (some ⟨w.heap.size, 3, none⟩)) := hN.1 rfl
    clear hN
    unfold StepTo
    simp only [putAll, Act.put, List.setIfInBounds_toArray, List.set_cons_succ, List.set_cons_zero, r22]
    clear r22
    obtain ⟨c0, c1, c2, c3⟩ := hkx
    go_wp2_with fail
    exact ⟨rfl, _, rfl, HTT.out _ (rfl)⟩
  · intro x wx hkx hN TT HTT
    have hkx : (fun w' => w'.cell? ⟨w.heap.size, 0, none⟩ = some (.int .i64 c) ∧ w'.cell? ⟨w.heap.size, 1, none⟩ = some (.slice ak ks.length ck) ∧ w'.cell? ⟨w.heap.size, 2, none⟩ = some (.int .u64 since) ∧ w'.cell? ⟨w.heap.size, 3, none⟩ = some (.slice ax n cx)) wx := hkx
    have r23 : x 5 = (.slice ax n cx) := hN.1 rfl
    clear hN
    unfold StepTo
    simp only [putAll, Act.put, List.setIfInBounds_toArray, List.set_cons_succ, List.set_cons_zero, r23]
    clear r23
    go_wp2_with fail
    exact ⟨rfl, _, rfl, HTT.out _ (rfl)⟩
  · intro x wx hkx hN TT HTT
    have hkx : (fun w' => w'.cell? ⟨w.heap.size, 0, none⟩ = some (.int .i64 c) ∧ w'.cell? ⟨w.heap.size, 1, none⟩ = some (.slice ak ks.length ck) ∧ w'.cell? ⟨w.heap.size, 2, none⟩ = some (.int .u64 since) ∧ w'.cell? ⟨w.heap.size, 3, none⟩ = some (.slice ax n cx)) wx := hkx
    have r24 : x 6 = (.int .i64 n) := hN.1 rfl
    clear hN
    unfold StepTo
    simp only [putAll, Act.put, List.setIfInBounds_toArray, List.set_cons_succ, List.set_cons_zero, r24]
    clear r24
    go_wp2_with fail
    exact ⟨rfl, _, rfl, HTT.out _ (rfl)⟩
  intro xb wxb hstb hN
  have hstb : (fun w' => WS (fun q => q = w.heap.size + 1) (w.heap.size + 1) wb (encU 1 ++ encU c ++ encQ encT ks ++ encU since) w') wxb := hstb
  have r18 : xb 0 = (.pointer (some ⟨w.heap.size + 1, 0, none⟩)) := hN.1
  have r19 : xb 1 = (.pointer (some ⟨w.heap.size, 2, none⟩)) := hN.2.1
  have r20 : xb 2 = (.int .u64 since) := hN.2.2.1
  have r21 : xb 3 = (.pointer (some ⟨w.heap.size + 1, 0, none⟩)) := hN.2.2.2.1
  have r22 : xb 4 = (.pointer (some ⟨w.heap.size, 3, none⟩)) := hN.2.2.2.2.1
  have r23 : xb 5 = (.slice ax n cx) := hN.2.2.2.2.2.1
  have r24 : xb 6 = (.int .i64 n) := hN.2.2.2.2.2.2.1
  have r25 : xb 7 = (.int .u64 n) := hN.2.2.2.2.2.2.2.1
  clear hN
  simp only [putAll, Act.put, List.setIfInBounds_toArray, List.set_cons_succ, List.set_cons_zero, r18, r19, r20, r21, r22, r23, r24, r25]
  clear r18 r19 r20 r21 r22 r23 r24 r25
  go_wp2_with fail
  refine (wUint_s n _ _ _ (encU 1 ++ encU c ++ encQ encT ks ++ encU since) _ hstb (by omega) (by have := HL.out; simp only [List.length_append]; omega)).mono ?_
  rintro e w5 ⟨rfl, h5⟩
  have H5 := Lib.hid h5
  obtain ⟨c0, c1, c2, c3⟩ := HC.out _ _ h5
  clear h5 hstb
  go_wp2_with fail
  clear c0 c1 c2 c3
  go_loopw [30] (fun v wr => ∃ i : Nat, v = .int .i64 (i : Int) ∧ i ≤ n ∧ Hid (WS (fun q => q = w.heap.size + 1) (w.heap.size + 1) wb (encU 1 ++ encU c ++ encQ encT ks ++ encU since ++ encU n ++ encF encM1 (xs.take i)) wr)) (fun v _ => n - (intOf v).toNat)
  case atStart => exact ⟨0, rfl, by omega, Lib.hid (by simpa [encF] using H5.out)⟩
  case round =>
    obtain ⟨i, rfl, hi, HW⟩ := hrel
    by_cases hlt : i < n
    · have t1 : decide ((i : Int) < (n : Int)) = true := by simpa using hlt
      have hi0 : (0 : Int) ≤ (i : Int) := by omega
      have hi1 : (i : Int) < (n : Int) := by omega
      have hki : i < xs.length := by rw [← HN.out]; exact hlt
      obtain ⟨g, off, cs, ha, hg, hb, hcl, hr, hp⟩ := (HKEEP.out _ _ HW.out).2.2.get i hki
      subst ha
      obtain ⟨ds, rfl, e1, e2, e3⟩ := hp
      have hle := encF_take_le encM1 xs i hki
      have hst := encF_take encM1 xs i hki
      have hgd := HGOOD.out i hki
      obtain ⟨⟨qq, doc, tt⟩, hx⟩ : ∃ x, x = xs[i] := ⟨_, rfl⟩
      rw [← hx] at e1 e2 e3 hr hle hst hgd
      simp only at e1 e2 e3 hr hgd
      obtain ⟨k', n', s', ak', lk', ck', av', lv', cv', rfl⟩ := valAt_form e3
      obtain ⟨f0, f1, f2, f3, f4, f5, f6⟩ := range7 hr
      have oal := (Only.refl (fun _ => False) wr).alloc (.cells #[.int .u64 qq, .string ⟨doc.toArray⟩, .int .u8 k', .int .i64 n', .string ⟨s'.toArray⟩, .slice ak' lk' ck', .slice av' lv' cv'] 64)
      have hl1 : doc.length ≤ (encM1 (qq, doc, tt)).length := by
        unfold encM1 encM
        simp only [List.length_append]
        have := encT_le doc
        omega
      have hwe := mutation_any qq doc tt _ G _ wb _ _ _ (HW.out.still oal) (valAt_only oal (fun _ _ h => h) _ _ e3) hgd.1 HGF.out e1 (by have := HL.out; omega) hgd.2 (by have := HL.out; simp only [List.length_append]; have := encF_len_take encM1 xs i; omega)
      have hcat : ∀ L : List UInt8, L ++ encF encM1 (xs.take i) ++ encM qq doc tt = L ++ encF encM1 (xs.take (i + 1)) := fun L => by rw [hst, List.append_assoc]; rfl
      have HWE := Lib.hid hwe; have HCAT := Lib.hid hcat; clear hwe hcat oal hl1 hle hst hgd hx e1 e2 e3 hr hg hb hcl hki
      go_wp2_with fail
      refine HWE.out.mono ?_
      rintro e w7 ⟨rfl, h7⟩
      rw [HCAT.out] at h7
      have H7 := Lib.hid h7; clear h7
      go_wp2_with fail
      go_roundw
      case rel => exact ⟨i + 1, by simp [go_sem], by omega, H7⟩
      case measure => simp [intOf]; omega
    · have t1 : decide ((i : Int) < (n : Int)) = false := by simp; omega
      obtain rfl : n = i := by omega
      have h8 := HW.out
      rw [HN.out, List.take_length, ← HN.out] at h8
      have hd := wSealed_s _ _ _ _ _ h8 (by have := HL.out; simp only [List.length_append]; omega)
      have o9 : Only (fun _ => False) w wr := OB.out.trans' h8.only (fun q hq e => by omega)
      have HD := Lib.hid hd; have O9 := Lib.hid o9; clear hd o9 h8
      go_wp2_with fail
      refine HD.out.mono ?_
      rintro e w10 ⟨v10, rfl, h10, o10⟩
      have hfin : Makes w (sealed (encU 1 ++ encU c ++ encQ encT ks ++ encU since ++ encU n ++ encF encM1 xs)) (.returned v10) w10 := ⟨v10, rfl, h10.mono O9.out.size, O9.out.trans o10⟩
      have HF := Lib.hid hfin; clear hfin h10 o10
      go_wp2_with fail
      go_ret
      exact HF.out
end Go.Proofs.Ytoojnpafcdaflaa
