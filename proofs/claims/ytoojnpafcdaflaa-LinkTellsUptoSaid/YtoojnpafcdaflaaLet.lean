/- Package link: EncodeTell. -/
import Derived.Test.YtoojnpafcdaflaaLfr
import Derived.Test.YtoojnpafcdaflaaLbg
import Derived.Test.YtoojnpafcdaflaaChn
namespace Go.Proofs.Ytoojnpafcdaflaa
open Go Go.RowKit
set_option linter.unusedVariables false
set_option linter.unusedSimpArgs false
set_option maxRecDepth 100000

theorem range4 {w : World} {b off : Nat} {c0 c1 c2 c3 : Value} (h : w.rangeAt b off [c0, c1, c2, c3]) :
    w.cell? ⟨b, off, none⟩ = some c0 ∧ w.cell? ⟨b, off + 1, none⟩ = some c1 ∧ w.cell? ⟨b, off + 2, none⟩ = some c2 ∧ w.cell? ⟨b, off + 3, none⟩ = some c3 :=
  ⟨h 0 _ rfl, h 1 _ rfl, h 2 _ rfl, h 3 _ rfl⟩
theorem tbox (w : World) (e0 e1 e2 e3 e4 e5 e6 : Value) : ∃ wb, wb = (w.alloc (.cells #[e0, e1, e2, e3, e4, e5, e6] 83)).alloc (.cells #[.slice none 0 0] 26) ∧ Only (fun _ => False) w wb ∧ wb.heap.size = w.heap.size + 2 ∧ WS (fun q => q = w.heap.size + 1) (w.heap.size + 1) wb [] wb ∧
    ∀ (S : Nat → Prop) w', Only S wb w' → ¬ S w.heap.size → w'.heap[w.heap.size]? = some (.cells #[e0, e1, e2, e3, e4, e5, e6] 83 (0, 0)) := by
  refine ⟨_, rfl, ((Only.refl _ w).alloc _).alloc _, by simp, ?_, fun S w' ho hS => ?_⟩
  · have h := heap_new (w.alloc (.cells #[e0, e1, e2, e3, e4, e5, e6] 83)) (.cells #[.slice none 0 0] 26)
    rw [World.size_alloc] at h
    exact WS.new h
  · have h := heap_old (heap_new w (.cells #[e0, e1, e2, e3, e4, e5, e6] 83)) (.cells #[.slice none 0 0] 26)
    rw [ho.block _ (Array.getElem?_eq_some_iff.1 h).1 hS]; exact h
theorem encF_len_take {α : Type} (enc : α → List UInt8) (xs : List α) (i : Nat) : (encF enc (xs.take i)).length ≤ (encF enc xs).length := by
  have e : xs = xs.take i ++ xs.drop i := (List.take_append_drop _ _).symm
  conv => rhs; rw [e]
  rw [encF_append, List.length_append]; omega
set_option maxHeartbeats 8000000 in
theorem wEncTell (t : TellV) (G : Nat → Prop) (w : World) (cs : List Value) (h : TellAt w G t cs) (hG : ∀ q, G q → q < w.heap.size) (hE : ∀ x ∈ t.xs, GoodV (objV x.2.2.1 x.2.2.2) ∧ (encV (objV x.2.2.1 x.2.2.2)).length ≤ 1000000)
    (hk : t.ks.length ≤ 1000000 ∧ t.xs.length ≤ 1000000 ∧ t.gs.length ≤ 1000000) (hl : (encTell t).length ≤ 100000000) :
    Calls Try.prog 51 #[.agg cs.toArray] w (Makes w (sealed (encTell t))) := by
  obtain ⟨c, done, ks, since, ver, xs, gs⟩ := t
  obtain ⟨ak, ck, ax, cx, ag, cg, rfl, h1, h2, h3, h4, h5, h6, h7, h8, h9, h10⟩ := h
  simp only at h1 h2 h3 h4 h5 h6 h7 h8 h9 h10 hE hk ⊢
  obtain ⟨hk1, hk2, hk3⟩ := hk
  obtain ⟨wb, hwb, ob, hsz, hws, hbx⟩ := tbox w (.int .i64 c) (.int .u64 done) (.slice ak ks.length ck) (.int .u64 since) (.int .u64 ver) (.slice ax xs.length cx) (.slice ag gs.length cg)
  have hlens : (encU 2).length + (encU c).length + (encU done).length + (encQ encT ks).length + (encU since).length + (encU ver).length + (encU xs.length).length + (encF encE1 xs).length + (encQ encT gs).length = (encTell ⟨c, done, ks, since, ver, xs, gs⟩).length := by
    unfold encTell
    simp only [List.length_append]
    rw [show (encQ encE1 xs).length = (encU xs.length).length + (encF encE1 xs).length from by unfold encQ; rw [List.length_append]]
    omega
  rw [← hlens] at hl
  have hfull : encTell ⟨c, done, ks, since, ver, xs, gs⟩ = encU 2 ++ encU c ++ encU done ++ encQ encT ks ++ encU since ++ encU ver ++ encU xs.length ++ encF encE1 xs ++ encQ encT gs := by
    unfold encTell encQ
    simp only [List.append_assoc]
  rw [hfull]
  clear hlens hfull
  have hkeep : ∀ l' w', WS (fun q => q = w.heap.size + 1) (w.heap.size + 1) wb l' w' → w'.heap[w.heap.size]? = some (.cells #[.int .i64 c, .int .u64 done, .slice ak ks.length ck, .int .u64 since, .int .u64 ver, .slice ax xs.length cx, .slice ag gs.length cg] 83 (0, 0)) ∧ ListAt 1 TextP w' G ak ks ∧ ListAt 4 EntP w' G ax xs ∧ ListAt 1 TextP w' G ag gs := fun l' w' hw => by
    have ho := ob.mono (T := fun q => q = w.heap.size + 1) (fun _ _ h => h.elim) |>.trans hw.only
    have hS : ∀ q, G q → ¬ (q = w.heap.size + 1) := fun q hq => by have := hG q hq; omega
    exact ⟨hbx _ w' hw.only (by omega), h8.only textP_keeps ho hS, h9.only entP_keeps ho hS, h10.only textP_keeps ho hS⟩
  have hGF : ∀ q, G q → q < wb.heap.size ∧ ¬ (q = w.heap.size + 1) := fun q hq => by have := hG q hq; omega
  have hcells := fun l' w' hw => box7 (hkeep l' w' hw).1
  obtain ⟨n, hn⟩ : ∃ n, n = xs.length := ⟨_, rfl⟩
  unfold Fits maxLen at h5 h6 h7
  have b1 : (0 : Int) ≤ (c : Int) := by omega
  have b2 : (c : Int) ≤ 9223372036854775807 := by omega
  have b3 : (0 : Int) ≤ (n : Int) := by omega
  have b4 : (n : Int) ≤ 1000000 := by omega
  have g0 := hcells _ _ hws
  rw [hwb] at g0
  have hwsd : WS (fun q => q = w.heap.size + 1) (w.heap.size + 1) wb [] wb.drew := hws.still (Only.refl _ _).drew
  have hgood : ∀ i (h : i < xs.length), GoodV (objV xs[i].2.2.1 xs[i].2.2.2) ∧ (encV (objV xs[i].2.2.1 xs[i].2.2.2)).length ≤ 1000000 := fun i h => hE _ (List.getElem_mem _)
  rw [← hn] at hl hcells hkeep g0 hwb ⊢
  have h2' := h2; have h3' := h3; have h4' := h4
  have HC := Lib.hid hcells; have HKEEP := Lib.hid hkeep; have HGF := Lib.hid hGF; have HWB := Lib.hid hwb; have OB := Lib.hid ob; have HSZ := Lib.hid hsz; have HW0 := Lib.hid hwsd; have HGOOD := Lib.hid hgood; have HL := Lib.hid hl; have HN := Lib.hid hn; have B1 := Lib.hid h1; have B2 := Lib.hid h2; have B3 := Lib.hid h3; have B4 := Lib.hid h4; have HK1 := Lib.hid hk1; have HK2 := Lib.hid hk2; have HK3 := Lib.hid hk3
  clear hcells hkeep hGF hwb ob hsz hwsd hgood hl hn hws hbx hE h1 h2 h3 h4 h5 h6 h7 h8 h9 h10 hG hk1 hk2 hk3 h2' h3' h4'
  go_enter Try.func51, Try.ntmps51
  go_wp2_with fail
  rw [← HWB.out] at g0 ⊢
  obtain ⟨c0, c1, c2, c3, c4, c5, c6⟩ := g0
  clear c0 c1 c2 c3 c4 c5 c6
  refine wp_region_chain 8 (by kernel_rfl) rfl (by kernel_rfl) [some 8, some 9, some 10, some 11, some 12, some 13, some 14, some 15] rfl rfl [1, 5] [none, some 0, none, none, none, some 1, none, none] (by kernel_rfl) (fun t => match t with | 0 => (fun w' => WS (fun q => q = w.heap.size + 1) (w.heap.size + 1) wb ([]) w') | 1 => (fun w' => WS (fun q => q = w.heap.size + 1) (w.heap.size + 1) wb (encU 2) w') | _ + 2 => (fun w' => WS (fun q => q = w.heap.size + 1) (w.heap.size + 1) wb (encU 2 ++ encU c) w') : Nat → World → Prop) (fun w' => w'.cell? ⟨w.heap.size, 0, none⟩ = some (.int .i64 c) ∧ w'.cell? ⟨w.heap.size, 1, none⟩ = some (.int .u64 done) ∧ w'.cell? ⟨w.heap.size, 2, none⟩ = some (.slice ak ks.length ck) ∧ w'.cell? ⟨w.heap.size, 2 + 1, none⟩ = some (.int .u64 since) ∧ w'.cell? ⟨w.heap.size, 2 + 2, none⟩ = some (.int .u64 ver) ∧ w'.cell? ⟨w.heap.size, 2 + 3, none⟩ = some (.slice ax n cx) ∧ w'.cell? ⟨w.heap.size, 2 + 4, none⟩ = some (.slice ag gs.length cg)) (fun t => match t with | 0 => fun w' _ hs => HC.out _ _ hs | 1 => fun w' _ hs => HC.out _ _ hs | _ + 2 => fun w' _ hs => HC.out _ _ hs) (HW0.out) [(fun v => v = (.pointer (some ⟨w.heap.size + 1, 0, none⟩))), (fun v => v = (.pointer (some ⟨w.heap.size + 1, 0, none⟩))), (fun v => v = (.pointer (some ⟨w.heap.size, 0, none⟩))), (fun v => v = (.int .i64 c)), (fun v => v = (.int .u64 c)), (fun v => v = (.pointer (some ⟨w.heap.size + 1, 0, none⟩))), (fun v => v = (.pointer (some ⟨w.heap.size, 1, none⟩))), (fun v => v = (.int .u64 done))] rfl _ rfl ⟨?_, ?_, ?_, ?_, ?_, ?_, ?_, ?_, trivial⟩ ?_
  · intro x wx hkx hN TT HTT
    have hkx : (fun w' => w'.cell? ⟨w.heap.size, 0, none⟩ = some (.int .i64 c) ∧ w'.cell? ⟨w.heap.size, 1, none⟩ = some (.int .u64 done) ∧ w'.cell? ⟨w.heap.size, 2, none⟩ = some (.slice ak ks.length ck) ∧ w'.cell? ⟨w.heap.size, 2 + 1, none⟩ = some (.int .u64 since) ∧ w'.cell? ⟨w.heap.size, 2 + 2, none⟩ = some (.int .u64 ver) ∧ w'.cell? ⟨w.heap.size, 2 + 3, none⟩ = some (.slice ax n cx) ∧ w'.cell? ⟨w.heap.size, 2 + 4, none⟩ = some (.slice ag gs.length cg)) wx := hkx
    clear hN
    unfold StepTo
    simp only [putAll, Act.put, List.setIfInBounds_toArray, List.set_cons_succ, List.set_cons_zero]
    go_wp2_with fail
    exact ⟨rfl, _, rfl, HTT.out _ (rfl)⟩
  · intro x wx hst hN TT HTT
    have hst : (fun w' => WS (fun q => q = w.heap.size + 1) (w.heap.size + 1) wb ([]) w') wx := hst
    have r8 : x 0 = (.pointer (some ⟨w.heap.size + 1, 0, none⟩)) := hN.1 rfl
    clear hN
    unfold StepTo
    simp only [putAll, Act.put, List.setIfInBounds_toArray, List.set_cons_succ, List.set_cons_zero, r8]
    clear r8
    go_wp2_with fail
    refine (wUint_s 2 _ _ _ [] _ hst (by decide) (by simp)).mono ?_
    rintro e w7 ⟨rfl, hU1⟩
    rw [List.nil_append] at hU1
    go_wp2_with fail
    exact ⟨rfl, _, rfl, HTT.out _ _ (rfl) (hU1)⟩
  · intro x wx hkx hN TT HTT
    have hkx : (fun w' => w'.cell? ⟨w.heap.size, 0, none⟩ = some (.int .i64 c) ∧ w'.cell? ⟨w.heap.size, 1, none⟩ = some (.int .u64 done) ∧ w'.cell? ⟨w.heap.size, 2, none⟩ = some (.slice ak ks.length ck) ∧ w'.cell? ⟨w.heap.size, 2 + 1, none⟩ = some (.int .u64 since) ∧ w'.cell? ⟨w.heap.size, 2 + 2, none⟩ = some (.int .u64 ver) ∧ w'.cell? ⟨w.heap.size, 2 + 3, none⟩ = some (.slice ax n cx) ∧ w'.cell? ⟨w.heap.size, 2 + 4, none⟩ = some (.slice ag gs.length cg)) wx := hkx
    clear hN
    unfold StepTo
    simp only [putAll, Act.put, List.setIfInBounds_toArray, List.set_cons_succ, List.set_cons_zero]
    go_wp2_with fail
    exact ⟨rfl, _, rfl, HTT.out _ (rfl)⟩
  · intro x wx hkx hN TT HTT
    have hkx : (fun w' => w'.cell? ⟨w.heap.size, 0, none⟩ = some (.int .i64 c) ∧ w'.cell? ⟨w.heap.size, 1, none⟩ = some (.int .u64 done) ∧ w'.cell? ⟨w.heap.size, 2, none⟩ = some (.slice ak ks.length ck) ∧ w'.cell? ⟨w.heap.size, 2 + 1, none⟩ = some (.int .u64 since) ∧ w'.cell? ⟨w.heap.size, 2 + 2, none⟩ = some (.int .u64 ver) ∧ w'.cell? ⟨w.heap.size, 2 + 3, none⟩ = some (.slice ax n cx) ∧ w'.cell? ⟨w.heap.size, 2 + 4, none⟩ = some (.slice ag gs.length cg)) wx := hkx
    have r10 : x 2 = (.pointer (some ⟨w.heap.size, 0, none⟩)) := hN.1 rfl
    clear hN
    unfold StepTo
    simp only [putAll, Act.put, List.setIfInBounds_toArray, List.set_cons_succ, List.set_cons_zero, r10]
    clear r10
    obtain ⟨c0, c1, c2, c3, c4, c5, c6⟩ := hkx
    go_wp2_with fail
    exact ⟨rfl, _, rfl, HTT.out _ (rfl)⟩
  · intro x wx hkx hN TT HTT
    have hkx : (fun w' => w'.cell? ⟨w.heap.size, 0, none⟩ = some (.int .i64 c) ∧ w'.cell? ⟨w.heap.size, 1, none⟩ = some (.int .u64 done) ∧ w'.cell? ⟨w.heap.size, 2, none⟩ = some (.slice ak ks.length ck) ∧ w'.cell? ⟨w.heap.size, 2 + 1, none⟩ = some (.int .u64 since) ∧ w'.cell? ⟨w.heap.size, 2 + 2, none⟩ = some (.int .u64 ver) ∧ w'.cell? ⟨w.heap.size, 2 + 3, none⟩ = some (.slice ax n cx) ∧ w'.cell? ⟨w.heap.size, 2 + 4, none⟩ = some (.slice ag gs.length cg)) wx := hkx
    have r11 : x 3 = (.int .i64 c) := hN.1 rfl
    clear hN
    unfold StepTo
    simp only [putAll, Act.put, List.setIfInBounds_toArray, List.set_cons_succ, List.set_cons_zero, r11]
    clear r11
    go_wp2_with fail
    exact ⟨rfl, _, rfl, HTT.out _ (rfl)⟩
  · intro x wx hst hN TT HTT
    have hst : (fun w' => WS (fun q => q = w.heap.size + 1) (w.heap.size + 1) wb (encU 2) w') wx := hst
    have r9 : x 1 = (.pointer (some ⟨w.heap.size + 1, 0, none⟩)) := hN.1 rfl
    have r12 : x 4 = (.int .u64 c) := hN.2.1 rfl
    clear hN
    unfold StepTo
    simp only [putAll, Act.put, List.setIfInBounds_toArray, List.set_cons_succ, List.set_cons_zero, r9, r12]
    clear r9 r12
    go_wp2_with fail
    refine (wUint_s c _ _ _ (encU 2) _ hst (by have := B1.out; omega) (by have := HL.out; omega)).mono ?_
    rintro e w7 ⟨rfl, hU1⟩
    go_wp2_with fail
    exact ⟨rfl, _, rfl, HTT.out _ _ (rfl) (hU1)⟩
  · intro x wx hkx hN TT HTT
    have hkx : (fun w' => w'.cell? ⟨w.heap.size, 0, none⟩ = some (.int .i64 c) ∧ w'.cell? ⟨w.heap.size, 1, none⟩ = some (.int .u64 done) ∧ w'.cell? ⟨w.heap.size, 2, none⟩ = some (.slice ak ks.length ck) ∧ w'.cell? ⟨w.heap.size, 2 + 1, none⟩ = some (.int .u64 since) ∧ w'.cell? ⟨w.heap.size, 2 + 2, none⟩ = some (.int .u64 ver) ∧ w'.cell? ⟨w.heap.size, 2 + 3, none⟩ = some (.slice ax n cx) ∧ w'.cell? ⟨w.heap.size, 2 + 4, none⟩ = some (.slice ag gs.length cg)) wx := hkx
    clear hN
    unfold StepTo
    simp only [putAll, Act.put, List.setIfInBounds_toArray, List.set_cons_succ, List.set_cons_zero]
    go_wp2_with fail
    exact ⟨rfl, _, rfl, HTT.out _ (rfl)⟩
  · intro x wx hkx hN TT HTT
    have hkx : (fun w' => w'.cell? ⟨w.heap.size, 0, none⟩ = some (.int .i64 c) ∧ w'.cell? ⟨w.heap.size, 1, none⟩ = some (.int .u64 done) ∧ w'.cell? ⟨w.heap.size, 2, none⟩ = some (.slice ak ks.length ck) ∧ w'.cell? ⟨w.heap.size, 2 + 1, none⟩ = some (.int .u64 since) ∧ w'.cell? ⟨w.heap.size, 2 + 2, none⟩ = some (.int .u64 ver) ∧ w'.cell? ⟨w.heap.size, 2 + 3, none⟩ = some (.slice ax n cx) ∧ w'.cell? ⟨w.heap.size, 2 + 4, none⟩ = some (.slice ag gs.length cg)) wx := hkx
    have r14 : x 6 = (.pointer (some ⟨w.heap.size, 1, none⟩)) := hN.1 rfl
    clear hN
    unfold StepTo
    simp only [putAll, Act.put, List.setIfInBounds_toArray, List.set_cons_succ, List.set_cons_zero, r14]
    clear r14
    obtain ⟨c0, c1, c2, c3, c4, c5, c6⟩ := hkx
    go_wp2_with fail
    exact ⟨rfl, _, rfl, HTT.out _ (rfl)⟩
  intro xa wxa hsta hN
  have hsta : (fun w' => WS (fun q => q = w.heap.size + 1) (w.heap.size + 1) wb (encU 2 ++ encU c) w') wxa := hsta
  have r8 : xa 0 = (.pointer (some ⟨w.heap.size + 1, 0, none⟩)) := hN.1
  have r9 : xa 1 = (.pointer (some ⟨w.heap.size + 1, 0, none⟩)) := hN.2.1
  have r10 : xa 2 = (.pointer (some ⟨w.heap.size, 0, none⟩)) := hN.2.2.1
  have r11 : xa 3 = (.int .i64 c) := hN.2.2.2.1
  have r12 : xa 4 = (.int .u64 c) := hN.2.2.2.2.1
  have r13 : xa 5 = (.pointer (some ⟨w.heap.size + 1, 0, none⟩)) := hN.2.2.2.2.2.1
  have r14 : xa 6 = (.pointer (some ⟨w.heap.size, 1, none⟩)) := hN.2.2.2.2.2.2.1
  have r15 : xa 7 = (.int .u64 done) := hN.2.2.2.2.2.2.2.1
  clear hN
  simp only [putAll, Act.put, List.setIfInBounds_toArray, List.set_cons_succ, List.set_cons_zero, r8, r9, r10, r11, r12, r13, r14, r15]
  clear r8 r9 r10 r11 r12 r13 r14 r15
  go_wp2_with fail
  refine (wUint_s done _ _ _ (encU 2 ++ encU c) _ hsta B2.out (by have := HL.out; simp only [List.length_append]; omega)).mono ?_
  rintro e w3 ⟨rfl, h3⟩
  obtain ⟨c0, c1, c2, c3, c4, c5, c6⟩ := HC.out _ _ h3
  have ht := wTexts ks ak ck _ G _ _ _ _ h3 (HKEEP.out _ _ h3).2.1 HGF.out HK1.out (by have := HL.out; simp only [List.length_append]; omega)
  have HT := Lib.hid ht; clear ht h3 hsta
  go_wp2_with fail
  refine HT.out.mono ?_
  rintro e w4 ⟨rfl, h4⟩
  have h4d := h4.still (Only.refl (fun _ => False) w4).drew
  have H4 := Lib.hid h4d; clear h4d h4 c0 c1 c2 c3 c4 c5 c6
  go_wp2_with fail
  refine wp_region_chain 14 (by kernel_rfl) rfl (by kernel_rfl) [some 22, some 23, some 24, some 25, some 26, some 27, some 28, some 29, some 30, some 31, some 32, some 33, some 34, some 35] rfl rfl [4, 8] [none, none, none, none, some 0, none, none, none, some 1, none, none, none, none, none] (by kernel_rfl) (fun t => match t with | 0 => (fun w' => WS (fun q => q = w.heap.size + 1) (w.heap.size + 1) wb (encU 2 ++ encU c ++ encU done ++ encQ encT ks) w') | 1 => (fun w' => WS (fun q => q = w.heap.size + 1) (w.heap.size + 1) wb (encU 2 ++ encU c ++ encU done ++ encQ encT ks ++ encU since) w') | _ + 2 => (fun w' => WS (fun q => q = w.heap.size + 1) (w.heap.size + 1) wb (encU 2 ++ encU c ++ encU done ++ encQ encT ks ++ encU since ++ encU ver) w') : Nat → World → Prop) (fun w' => w'.cell? ⟨w.heap.size, 0, none⟩ = some (.int .i64 c) ∧ w'.cell? ⟨w.heap.size, 1, none⟩ = some (.int .u64 done) ∧ w'.cell? ⟨w.heap.size, 2, none⟩ = some (.slice ak ks.length ck) ∧ w'.cell? ⟨w.heap.size, 2 + 1, none⟩ = some (.int .u64 since) ∧ w'.cell? ⟨w.heap.size, 2 + 2, none⟩ = some (.int .u64 ver) ∧ w'.cell? ⟨w.heap.size, 2 + 3, none⟩ = some (.slice ax n cx) ∧ w'.cell? ⟨w.heap.size, 2 + 4, none⟩ = some (.slice ag gs.length cg)) (fun t => match t with | 0 => fun w' _ hs => HC.out _ _ hs | 1 => fun w' _ hs => HC.out _ _ hs | _ + 2 => fun w' _ hs => HC.out _ _ hs) (H4.out) [(fun v => v = (.pointer (some ⟨w.heap.size + 1, 0, none⟩))), (fun v => v = (.pointer (some ⟨w.heap.size, 2, none⟩))), (fun v => v = (.pointer (some ⟨w.heap.size, 2 + 1, none⟩))), (fun v => v = (.int .u64 since)), (fun v => v = (.pointer (some ⟨w.heap.size + 1, 0, none⟩))), (fun v => v = (.pointer (some ⟨w.heap.size, 2, none⟩))), (fun v => v = (.pointer (some ⟨w.heap.size, 2 + 2, none⟩))), (fun v => v = (.int .u64 ver)), (fun v => v = (.pointer (some ⟨w.heap.size + 1, 0, none⟩))), (fun v => v = (.pointer (some ⟨w.heap.size, 2, none⟩))), (fun v => v = (.pointer (some ⟨w.heap.size, 2 + 3, none⟩))), (fun v => v = (.slice ax n cx)), (fun v => v = (.int .i64 n)), (fun v => v = (.int .u64 n))] rfl _ rfl ⟨?_, ?_, ?_, ?_, ?_, ?_, ?_, ?_, ?_, ?_, ?_, ?_, ?_, ?_, trivial⟩ ?_
  · intro x wx hkx hN TT HTT
    have hkx : (fun w' => w'.cell? ⟨w.heap.size, 0, none⟩ = some (.int .i64 c) ∧ w'.cell? ⟨w.heap.size, 1, none⟩ = some (.int .u64 done) ∧ w'.cell? ⟨w.heap.size, 2, none⟩ = some (.slice ak ks.length ck) ∧ w'.cell? ⟨w.heap.size, 2 + 1, none⟩ = some (.int .u64 since) ∧ w'.cell? ⟨w.heap.size, 2 + 2, none⟩ = some (.int .u64 ver) ∧ w'.cell? ⟨w.heap.size, 2 + 3, none⟩ = some (.slice ax n cx) ∧ w'.cell? ⟨w.heap.size, 2 + 4, none⟩ = some (.slice ag gs.length cg)) wx := hkx
    clear hN
    unfold StepTo
    simp only [putAll, Act.put, List.setIfInBounds_toArray, List.set_cons_succ, List.set_cons_zero]
    go_wp2_with fail
    exact ⟨rfl, _, rfl, HTT.out _ (rfl)⟩
  · intro x wx hkx hN TT HTT
    have hkx : (fun w' => w'.cell? ⟨w.heap.size, 0, none⟩ = some (.int .i64 c) ∧ w'.cell? ⟨w.heap.size, 1, none⟩ = some (.int .u64 done) ∧ w'.cell? ⟨w.heap.size, 2, none⟩ = some (.slice ak ks.length ck) ∧ w'.cell? ⟨w.heap.size, 2 + 1, none⟩ = some (.int .u64 since) ∧ w'.cell? ⟨w.heap.size, 2 + 2, none⟩ = some (.int .u64 ver) ∧ w'.cell? ⟨w.heap.size, 2 + 3, none⟩ = some (.slice ax n cx) ∧ w'.cell? ⟨w.heap.size, 2 + 4, none⟩ = some (.slice ag gs.length cg)) wx := hkx
    clear hN
    unfold StepTo
    simp only [putAll, Act.put, List.setIfInBounds_toArray, List.set_cons_succ, List.set_cons_zero]
    go_wp2_with fail
    exact ⟨rfl, _, rfl, HTT.out _ (rfl)⟩
  · intro x wx hkx hN TT HTT
    have hkx : (fun w' => w'.cell? ⟨w.heap.size, 0, none⟩ = some (.int .i64 c) ∧ w'.cell? ⟨w.heap.size, 1, none⟩ = some (.int .u64 done) ∧ w'.cell? ⟨w.heap.size, 2, none⟩ = some (.slice ak ks.length ck) ∧ w'.cell? ⟨w.heap.size, 2 + 1, none⟩ = some (.int .u64 since) ∧ w'.cell? ⟨w.heap.size, 2 + 2, none⟩ = some (.int .u64 ver) ∧ w'.cell? ⟨w.heap.size, 2 + 3, none⟩ = some (.slice ax n cx) ∧ w'.cell? ⟨w.heap.size, 2 + 4, none⟩ = some (.slice ag gs.length cg)) wx := hkx
    have r23 : x 1 = (.pointer (some ⟨w.heap.size, 2, none⟩)) := hN.1 rfl
    clear hN
    unfold StepTo
    simp only [putAll, Act.put, List.setIfInBounds_toArray, List.set_cons_succ, List.set_cons_zero, r23]
    clear r23
    go_wp2_with fail
    exact ⟨rfl, _, rfl, HTT.out _ (rfl)⟩
  · intro x wx hkx hN TT HTT
    have hkx : (fun w' => w'.cell? ⟨w.heap.size, 0, none⟩ = some (.int .i64 c) ∧ w'.cell? ⟨w.heap.size, 1, none⟩ = some (.int .u64 done) ∧ w'.cell? ⟨w.heap.size, 2, none⟩ = some (.slice ak ks.length ck) ∧ w'.cell? ⟨w.heap.size, 2 + 1, none⟩ = some (.int .u64 since) ∧ w'.cell? ⟨w.heap.size, 2 + 2, none⟩ = some (.int .u64 ver) ∧ w'.cell? ⟨w.heap.size, 2 + 3, none⟩ = some (.slice ax n cx) ∧ w'.cell? ⟨w.heap.size, 2 + 4, none⟩ = some (.slice ag gs.length cg)) wx := hkx
    have r24 : x 2 = (.pointer (some ⟨w.heap.size, 2 + 1, none⟩)) := hN.1 rfl
    clear hN
    unfold StepTo
    simp only [putAll, Act.put, List.setIfInBounds_toArray, List.set_cons_succ, List.set_cons_zero, r24]
    clear r24
    obtain ⟨c0, c1, c2, c3, c4, c5, c6⟩ := hkx
    go_wp2_with fail
    exact ⟨rfl, _, rfl, HTT.out _ (rfl)⟩
  · intro x wx hst hN TT HTT
    have hst : (fun w' => WS (fun q => q = w.heap.size + 1) (w.heap.size + 1) wb (encU 2 ++ encU c ++ encU done ++ encQ encT ks) w') wx := hst
    have r22 : x 0 = (.pointer (some ⟨w.heap.size + 1, 0, none⟩)) := hN.1 rfl
    have r25 : x 3 = (.int .u64 since) := hN.2.1 rfl
    clear hN
    unfold StepTo
    simp only [putAll, Act.put, List.setIfInBounds_toArray, List.set_cons_succ, List.set_cons_zero, r22, r25]
    clear r22 r25
    go_wp2_with fail
    refine (wUint_s since _ _ _ (encU 2 ++ encU c ++ encU done ++ encQ encT ks) _ hst B3.out (by have := HL.out; simp only [List.length_append]; omega)).mono ?_
    rintro e w7 ⟨rfl, hU1⟩
    go_wp2_with fail
    exact ⟨rfl, _, rfl, HTT.out _ _ (rfl) (hU1)⟩
  · intro x wx hkx hN TT HTT
    have hkx : (fun w' => w'.cell? ⟨w.heap.size, 0, none⟩ = some (.int .i64 c) ∧ w'.cell? ⟨w.heap.size, 1, none⟩ = some (.int .u64 done) ∧ w'.cell? ⟨w.heap.size, 2, none⟩ = some (.slice ak ks.length ck) ∧ w'.cell? ⟨w.heap.size, 2 + 1, none⟩ = some (.int .u64 since) ∧ w'.cell? ⟨w.heap.size, 2 + 2, none⟩ = some (.int .u64 ver) ∧ w'.cell? ⟨w.heap.size, 2 + 3, none⟩ = some (.slice ax n cx) ∧ w'.cell? ⟨w.heap.size, 2 + 4, none⟩ = some (.slice ag gs.length cg)) wx := hkx
    clear hN
    unfold StepTo
    simp only [putAll, Act.put, List.setIfInBounds_toArray, List.set_cons_succ, List.set_cons_zero]
    go_wp2_with fail
    exact ⟨rfl, _, rfl, HTT.out _ (rfl)⟩
  · intro x wx hkx hN TT HTT
    have hkx : (fun w' => w'.cell? ⟨w.heap.size, 0, none⟩ = some (.int .i64 c) ∧ w'.cell? ⟨w.heap.size, 1, none⟩ = some (.int .u64 done) ∧ w'.cell? ⟨w.heap.size, 2, none⟩ = some (.slice ak ks.length ck) ∧ w'.cell? ⟨w.heap.size, 2 + 1, none⟩ = some (.int .u64 since) ∧ w'.cell? ⟨w.heap.size, 2 + 2, none⟩ = some (.int .u64 ver) ∧ w'.cell? ⟨w.heap.size, 2 + 3, none⟩ = some (.slice ax n cx) ∧ w'.cell? ⟨w.heap.size, 2 + 4, none⟩ = some (.slice ag gs.length cg)) wx := hkx
    have r27 : x 5 = (.pointer (some ⟨w.heap.size, 2, none⟩)) := hN.1 rfl
    clear hN
    unfold StepTo
    simp only [putAll, Act.put, List.setIfInBounds_toArray, List.set_cons_succ, List.set_cons_zero, r27]
    clear r27
    go_wp2_with fail
    exact ⟨rfl, _, rfl, HTT.out _ (rfl)⟩
  · intro x wx hkx hN TT HTT
    have hkx : (fun w' => w'.cell? ⟨w.heap.size, 0, none⟩ = some (.int .i64 c) ∧ w'.cell? ⟨w.heap.size, 1, none⟩ = some (.int .u64 done) ∧ w'.cell? ⟨w.heap.size, 2, none⟩ = some (.slice ak ks.length ck) ∧ w'.cell? ⟨w.heap.size, 2 + 1, none⟩ = some (.int .u64 since) ∧ w'.cell? ⟨w.heap.size, 2 + 2, none⟩ = some (.int .u64 ver) ∧ w'.cell? ⟨w.heap.size, 2 + 3, none⟩ = some (.slice ax n cx) ∧ w'.cell? ⟨w.heap.size, 2 + 4, none⟩ = some (.slice ag gs.length cg)) wx := hkx
    have r28 : x 6 = (.pointer (some ⟨w.heap.size, 2 + 2, none⟩)) := hN.1 rfl
    clear hN
    unfold StepTo
    simp only [putAll, Act.put, List.setIfInBounds_toArray, List.set_cons_succ, List.set_cons_zero, r28]
    clear r28
    obtain ⟨c0, c1, c2, c3, c4, c5, c6⟩ := hkx
    go_wp2_with fail
    exact ⟨rfl, _, rfl, HTT.out _ (rfl)⟩
  · intro x wx hst hN TT HTT
    have hst : (fun w' => WS (fun q => q = w.heap.size + 1) (w.heap.size + 1) wb (encU 2 ++ encU c ++ encU done ++ encQ encT ks ++ encU since) w') wx := hst
    have r26 : x 4 = (.pointer (some ⟨w.heap.size + 1, 0, none⟩)) := hN.1 rfl
    have r29 : x 7 = (.int .u64 ver) := hN.2.1 rfl
    clear hN
    unfold StepTo
    simp only [putAll, Act.put, List.setIfInBounds_toArray, List.set_cons_succ, List.set_cons_zero, r26, r29]
    clear r26 r29
    go_wp2_with fail
    refine (wUint_s ver _ _ _ (encU 2 ++ encU c ++ encU done ++ encQ encT ks ++ encU since) _ hst B4.out (by have := HL.out; simp only [List.length_append]; omega)).mono ?_
    rintro e w7 ⟨rfl, hU1⟩
    go_wp2_with fail
    exact ⟨rfl, _, rfl, HTT.out _ _ (rfl) (hU1)⟩
  · intro x wx hkx hN TT HTT
    have hkx : (fun w' => w'.cell? ⟨w.heap.size, 0, none⟩ = some (.int .i64 c) ∧ w'.cell? ⟨w.heap.size, 1, none⟩ = some (.int .u64 done) ∧ w'.cell? ⟨w.heap.size, 2, none⟩ = some (.slice ak ks.length ck) ∧ w'.cell? ⟨w.heap.size, 2 + 1, none⟩ = some (.int .u64 since) ∧ w'.cell? ⟨w.heap.size, 2 + 2, none⟩ = some (.int .u64 ver) ∧ w'.cell? ⟨w.heap.size, 2 + 3, none⟩ = some (.slice ax n cx) ∧ w'.cell? ⟨w.heap.size, 2 + 4, none⟩ = some (.slice ag gs.length cg)) wx := hkx
    clear hN
    unfold StepTo
    simp only [putAll, Act.put, List.setIfInBounds_toArray, List.set_cons_succ, List.set_cons_zero]
    go_wp2_with fail
    exact ⟨rfl, _, rfl, HTT.out _ (rfl)⟩
  · intro x wx hkx hN TT HTT
    have hkx : (fun w' => w'.cell? ⟨w.heap.size, 0, none⟩ = some (.int .i64 c) ∧ w'.cell? ⟨w.heap.size, 1, none⟩ = some (.int .u64 done) ∧ w'.cell? ⟨w.heap.size, 2, none⟩ = some (.slice ak ks.length ck) ∧ w'.cell? ⟨w.heap.size, 2 + 1, none⟩ = some (.int .u64 since) ∧ w'.cell? ⟨w.heap.size, 2 + 2, none⟩ = some (.int .u64 ver) ∧ w'.cell? ⟨w.heap.size, 2 + 3, none⟩ = some (.slice ax n cx) ∧ w'.cell? ⟨w.heap.size, 2 + 4, none⟩ = some (.slice ag gs.length cg)) wx := hkx
    have r31 : x 9 = (.pointer (some ⟨w.heap.size, 2, none⟩)) := hN.1 rfl
    clear hN
    unfold StepTo
    simp only [putAll, Act.put, List.setIfInBounds_toArray, List.set_cons_succ, List.set_cons_zero, r31]
    clear r31
    go_wp2_with fail
    exact ⟨rfl, _, rfl, HTT.out _ (rfl)⟩
  · intro x wx hkx hN TT HTT
    have hkx : (fun w' => w'.cell? ⟨w.heap.size, 0, none⟩ = some (.int .i64 c) ∧ w'.cell? ⟨w.heap.size, 1, none⟩ = some (.int .u64 done) ∧ w'.cell? ⟨w.heap.size, 2, none⟩ = some (.slice ak ks.length ck) ∧ w'.cell? ⟨w.heap.size, 2 + 1, none⟩ = some (.int .u64 since) ∧ w'.cell? ⟨w.heap.size, 2 + 2, none⟩ = some (.int .u64 ver) ∧ w'.cell? ⟨w.heap.size, 2 + 3, none⟩ = some (.slice ax n cx) ∧ w'.cell? ⟨w.heap.size, 2 + 4, none⟩ = some (.slice ag gs.length cg)) wx := hkx
    have r32 : x 10 = (.pointer (some ⟨w.heap.size, 2 + 3, none⟩)) := hN.1 rfl
    clear hN
    unfold StepTo
    simp only [putAll, Act.put, List.setIfInBounds_toArray, List.set_cons_succ, List.set_cons_zero, r32]
    clear r32
    obtain ⟨c0, c1, c2, c3, c4, c5, c6⟩ := hkx
    go_wp2_with fail
    exact ⟨rfl, _, rfl, HTT.out _ (rfl)⟩
  · intro x wx hkx hN TT HTT
    have hkx : (fun w' => w'.cell? ⟨w.heap.size, 0, none⟩ = some (.int .i64 c) ∧ w'.cell? ⟨w.heap.size, 1, none⟩ = some (.int .u64 done) ∧ w'.cell? ⟨w.heap.size, 2, none⟩ = some (.slice ak ks.length ck) ∧ w'.cell? ⟨w.heap.size, 2 + 1, none⟩ = some (.int .u64 since) ∧ w'.cell? ⟨w.heap.size, 2 + 2, none⟩ = some (.int .u64 ver) ∧ w'.cell? ⟨w.heap.size, 2 + 3, none⟩ = some (.slice ax n cx) ∧ w'.cell? ⟨w.heap.size, 2 + 4, none⟩ = some (.slice ag gs.length cg)) wx := hkx
    have r33 : x 11 = (.slice ax n cx) := hN.1 rfl
    clear hN
    unfold StepTo
    simp only [putAll, Act.put, List.setIfInBounds_toArray, List.set_cons_succ, List.set_cons_zero, r33]
    clear r33
    go_wp2_with fail
    exact ⟨rfl, _, rfl, HTT.out _ (rfl)⟩
  · intro x wx hkx hN TT HTT
    have hkx : (fun w' => w'.cell? ⟨w.heap.size, 0, none⟩ = some (.int .i64 c) ∧ w'.cell? ⟨w.heap.size, 1, none⟩ = some (.int .u64 done) ∧ w'.cell? ⟨w.heap.size, 2, none⟩ = some (.slice ak ks.length ck) ∧ w'.cell? ⟨w.heap.size, 2 + 1, none⟩ = some (.int .u64 since) ∧ w'.cell? ⟨w.heap.size, 2 + 2, none⟩ = some (.int .u64 ver) ∧ w'.cell? ⟨w.heap.size, 2 + 3, none⟩ = some (.slice ax n cx) ∧ w'.cell? ⟨w.heap.size, 2 + 4, none⟩ = some (.slice ag gs.length cg)) wx := hkx
    have r34 : x 12 = (.int .i64 n) := hN.1 rfl
    clear hN
    unfold StepTo
    simp only [putAll, Act.put, List.setIfInBounds_toArray, List.set_cons_succ, List.set_cons_zero, r34]
    clear r34
    go_wp2_with fail
    exact ⟨rfl, _, rfl, HTT.out _ (rfl)⟩
  intro xb wxb hstb hN
  have hstb : (fun w' => WS (fun q => q = w.heap.size + 1) (w.heap.size + 1) wb (encU 2 ++ encU c ++ encU done ++ encQ encT ks ++ encU since ++ encU ver) w') wxb := hstb
  have r22 : xb 0 = (.pointer (some ⟨w.heap.size + 1, 0, none⟩)) := hN.1
  have r23 : xb 1 = (.pointer (some ⟨w.heap.size, 2, none⟩)) := hN.2.1
  have r24 : xb 2 = (.pointer (some ⟨w.heap.size, 2 + 1, none⟩)) := hN.2.2.1
  have r25 : xb 3 = (.int .u64 since) := hN.2.2.2.1
  have r26 : xb 4 = (.pointer (some ⟨w.heap.size + 1, 0, none⟩)) := hN.2.2.2.2.1
  have r27 : xb 5 = (.pointer (some ⟨w.heap.size, 2, none⟩)) := hN.2.2.2.2.2.1
  have r28 : xb 6 = (.pointer (some ⟨w.heap.size, 2 + 2, none⟩)) := hN.2.2.2.2.2.2.1
  have r29 : xb 7 = (.int .u64 ver) := hN.2.2.2.2.2.2.2.1
  have r30 : xb 8 = (.pointer (some ⟨w.heap.size + 1, 0, none⟩)) := hN.2.2.2.2.2.2.2.2.1
  have r31 : xb 9 = (.pointer (some ⟨w.heap.size, 2, none⟩)) := hN.2.2.2.2.2.2.2.2.2.1
  have r32 : xb 10 = (.pointer (some ⟨w.heap.size, 2 + 3, none⟩)) := hN.2.2.2.2.2.2.2.2.2.2.1
  have r33 : xb 11 = (.slice ax n cx) := hN.2.2.2.2.2.2.2.2.2.2.2.1
  have r34 : xb 12 = (.int .i64 n) := hN.2.2.2.2.2.2.2.2.2.2.2.2.1
  have r35 : xb 13 = (.int .u64 n) := hN.2.2.2.2.2.2.2.2.2.2.2.2.2.1
  clear hN
  simp only [putAll, Act.put, List.setIfInBounds_toArray, List.set_cons_succ, List.set_cons_zero, r22, r23, r24, r25, r26, r27, r28, r29, r30, r31, r32, r33, r34, r35]
  clear r22 r23 r24 r25 r26 r27 r28 r29 r30 r31 r32 r33 r34 r35
  go_wp2_with fail
  refine (wUint_s n _ _ _ (encU 2 ++ encU c ++ encU done ++ encQ encT ks ++ encU since ++ encU ver) _ hstb (by omega) (by have := HL.out; simp only [List.length_append]; omega)).mono ?_
  rintro e w5 ⟨rfl, h5⟩
  have H5 := Lib.hid h5
  obtain ⟨c0, c1, c2, c3, c4, c5, c6⟩ := HC.out _ _ h5
  clear h5 hstb
  go_wp2_with fail
  clear c0 c1 c2 c3 c4 c5 c6
  go_loopw [41] (fun v wr => ∃ i : Nat, v = .int .i64 (i : Int) ∧ i ≤ n ∧ Hid (WS (fun q => q = w.heap.size + 1) (w.heap.size + 1) wb (encU 2 ++ encU c ++ encU done ++ encQ encT ks ++ encU since ++ encU ver ++ encU n ++ encF encE1 (xs.take i)) wr)) (fun v _ => n - (intOf v).toNat)
  case atStart => exact ⟨0, rfl, by omega, Lib.hid (by simpa [encF] using H5.out)⟩
  case round =>
    obtain ⟨i, rfl, hi, HW⟩ := hrel
    by_cases hlt : i < n
    · have t1 : decide ((i : Int) < (n : Int)) = true := by simpa using hlt
      have hi0 : (0 : Int) ≤ (i : Int) := by omega
      have hi1 : (i : Int) < (n : Int) := by omega
      have hki : i < xs.length := by rw [← HN.out]; exact hlt
      obtain ⟨g, off, cs, ha, hg, hb, hcl, hr, hp⟩ := (HKEEP.out _ _ HW.out).2.2.1.get i hki
      subst ha
      obtain ⟨ek, ev, dk, dv, rfl, e1, e2, e3⟩ := hp
      obtain ⟨f0, f1, f2, f3⟩ := range4 hr
      have hle := encF_take_le encE1 xs i hki
      have hst := encF_take encE1 xs i hki
      have hgd := HGOOD.out i hki
      obtain ⟨⟨ty, id, kk, vv⟩, hx⟩ : ∃ x, x = xs[i] := ⟨_, rfl⟩
      rw [← hx] at e1 e2 e3 f0 f1 f2 f3 hle hst hgd
      simp only at e1 e2 e3 f0 f1 f2 f3 hgd
      have oal := (Only.refl (fun _ => False) wr).alloc (.cells #[.string ⟨ty.toArray⟩, .string ⟨id.toArray⟩, .slice ek kk.length dk, .slice ev vv.length dv] 69)
      have hl1 : ty.length + id.length ≤ (encE1 (ty, id, kk, vv)).length := by
        unfold encE1 encE
        simp only [List.length_append]
        have := encT_le ty; have := encT_le id
        omega
      have hwe := wEntity ty id kk vv ek ev dk dv _ G _ wb _ _ (HW.out.still oal) (valAt_only oal (fun _ _ h => h) _ _ e3) hgd.1 HGF.out (by have := HL.out; omega) (by have := HL.out; omega) hgd.2 (by have := HL.out; simp only [List.length_append]; have := encF_len_take encE1 xs i; omega)
      have hcat : ∀ L : List UInt8, L ++ encF encE1 (xs.take i) ++ encE ty id kk vv = L ++ encF encE1 (xs.take (i + 1)) := fun L => by rw [hst, List.append_assoc]; rfl
      have HWE := Lib.hid hwe; have HCAT := Lib.hid hcat; clear hwe hcat oal hl1 hle hst hgd hx e1 e2 e3 hr hg hb hcl hki
      go_wp2_with fail
      refine HWE.out.mono ?_
      rintro e w7 ⟨rfl, h7⟩
      rw [HCAT.out] at h7
      have H7 := Lib.hid h7; clear h7
      go_wp2_with fail
      go_roundw
      case rel => exact ⟨i + 1, by simp [go_sem], by omega, H7⟩
      case measure => simp [intOf]; omega
    · have t1 : decide ((i : Int) < (n : Int)) = false := by simp; omega
      obtain rfl : n = i := by omega
      have h8 := HW.out
      rw [HN.out, List.take_length, ← HN.out] at h8
      obtain ⟨c0, c1, c2, c3, c4, c5, c6⟩ := HC.out _ _ h8
      have ht := wTexts gs ag cg _ G _ _ _ _ h8 (HKEEP.out _ _ h8).2.2.2 HGF.out HK3.out (by have := HL.out; simp only [List.length_append]; omega)
      have HT := Lib.hid ht; clear ht h8
      go_wp2_with fail
      refine HT.out.mono ?_
      rintro e w9 ⟨rfl, h9⟩
      have hd := wSealed_s _ _ _ _ _ h9 (by have := HL.out; simp only [List.length_append]; omega)
      have o9 : Only (fun _ => False) w w9 := OB.out.trans' h9.only (fun q hq e => by omega)
      have HD := Lib.hid hd; have O9 := Lib.hid o9; clear hd o9 h9 c0 c1 c2 c3 c4 c5 c6
      go_wp2_with fail
      refine HD.out.mono ?_
      rintro e w10 ⟨v10, rfl, h10, o10⟩
      have hfin : Makes w (sealed (encU 2 ++ encU c ++ encU done ++ encQ encT ks ++ encU since ++ encU ver ++ encU n ++ encF encE1 xs ++ encQ encT gs)) (.returned v10) w10 := ⟨v10, rfl, h10.mono O9.out.size, O9.out.trans o10⟩
      have HF := Lib.hid hfin; clear hfin h10 o10
      go_wp2_with fail
      go_ret
      exact HF.out
end Go.Proofs.Ytoojnpafcdaflaa
