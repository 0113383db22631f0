/- Package link: texts written, and the law's texts, short. -/
import Derived.Test.YtoojnpafcdaflaaLrw
import Derived.Test.YtoojnpafcdaflaaOpn
import Derived.BigQuiet
namespace Go.Proofs.Ytoojnpafcdaflaa
open Go Go.RowKit
set_option linter.unusedVariables false
set_option linter.unusedSimpArgs false
set_option maxRecDepth 100000

def TextP (w : World) (G : Nat → Prop) (s : List UInt8) (cs : List Value) : Prop := cs = [strV s]
theorem textP_keeps : Keeps TextP := fun _ _ _ _ _ _ _ _ h => h
theorem textP_weakens : Weakens TextP := fun _ _ _ _ _ _ h => h
theorem texts_cell {w : World} {G : Nat → Prop} {a : Option Addr} {ks : List (List UInt8)} (h : ListAt 1 TextP w G a ks) {i : Nat} (hi : i < ks.length) : ∃ b off, a = some ⟨b, off, none⟩ ∧ G b ∧ b < w.heap.size ∧ w.cell? ⟨b, off + i, none⟩ = some (.string ⟨(ks[i]).toArray⟩) := by
  obtain ⟨b, off, cs, e, hg, hb, hl, hr, hp⟩ := h.get i hi
  unfold TextP at hp
  subst hp
  refine ⟨b, off, e, hg, hb, ?_⟩
  have := hr 0 _ rfl
  rwa [Nat.mul_one, Nat.add_zero] at this
theorem encT_le (s : List UInt8) : s.length ≤ (encT s).length := by unfold encT; rw [List.length_append]; omega
theorem texts_each {ks : List (List UInt8)} {i : Nat} (h : i < ks.length) : (encF encT (ks.take i)).length + (encT ks[i]).length ≤ (encF encT ks).length := encF_take_le encT ks i h
set_option maxHeartbeats 4000000 in
theorem wTexts (ks : List (List UInt8)) (a : Option Addr) (c : Nat) (F G : Nat → Prop) (b : Nat) (w1 : World) (l : List UInt8) (w : World) (h : WS F b w1 l w) (hk : ListAt 1 TextP w G a ks) (hG : ∀ q, G q → q < w1.heap.size ∧ ¬ F q) (hks : ks.length ≤ 1000000) (hl : l.length + (encQ encT ks).length ≤ 1000000000) :
    Calls Try.prog 72 #[.pointer (some ⟨b, 0, none⟩), .slice a ks.length c] w fun e w' => e = .returned (.tuple #[]) ∧ WS F b w1 (l ++ encQ encT ks) w' := by
  obtain ⟨n, hn⟩ : ∃ n, n = ks.length := ⟨_, rfl⟩
  have hq : (encQ encT ks).length = (encU n).length + (encF encT ks).length := by unfold encQ; rw [List.length_append, hn]
  have hu := wUint_s n F b w1 l w h (by omega) (by omega)
  rw [← hn] at hks ⊢
  have hkeep : ∀ l' w', WS F b w1 l' w' → ListAt 1 TextP w' G a ks := fun l' w' hw => by
    intro hp
    obtain ⟨g, off, e, hg, hb, hr⟩ := hk hp
    have h1 := h.only
    have h2 := hw.only
    refine ⟨g, off, e, hg, Nat.lt_of_lt_of_le (hG g hg).1 h2.size, ?_⟩
    have hst : ∀ (xs : List (List UInt8)) (o : Nat), RowAt 1 TextP w G xs g o → RowAt 1 TextP w' G xs g o := by
      intro xs
      induction xs with
      | nil => intro o _; trivial
      | cons x xs ih =>
        rintro o ⟨⟨cs, q1, q2, q3⟩, q4⟩
        refine ⟨⟨cs, q1, fun j u hu => ?_, q3⟩, ih _ q4⟩
        have e1 := q2 j u hu
        rw [cell_only h1 (a := ⟨g, o + j, none⟩) (hG g hg).1 (hG g hg).2] at e1
        rw [cell_only h2 (a := ⟨g, o + j, none⟩) (hG g hg).1 (hG g hg).2]; exact e1
    exact hst ks off hr
  have hn0 : (0 : Int) ≤ (n : Int) := by omega
  have hn1 : (n : Int) ≤ 1000000 := by omega
  obtain ⟨Q, hQ⟩ : ∃ Q : World → Prop, Q = fun w' => WS F b w1 (l ++ encQ encT ks) w' := ⟨_, rfl⟩
  have hfin : ∀ w', WS F b w1 (l ++ encU n ++ encF encT (ks.take n)) w' → Q w' := fun w' hw => by
    rw [hn, List.take_length, List.append_assoc] at hw
    rw [hQ]; exact hw
  have hq2 : ∀ w', Q w' → WS F b w1 (l ++ encQ encT ks) w' := fun w' hw => by rw [hQ] at hw; exact hw
  have HN := Lib.hid hn; have HQ := Lib.hid hq; have HU := Lib.hid hu; have HKEEP := Lib.hid hkeep; have HFIN := Lib.hid hfin; have HL := Lib.hid hl; have HQ2 := Lib.hid hq2
  clear hn hq hu hkeep hfin hl h hk hG hQ hq2
  go_enter Try.func72, Try.ntmps72
  go_wp2_with fail
  refine HU.out.mono ?_
  rintro e w2 ⟨rfl, h2⟩
  have H2 := Lib.hid h2; clear h2
  go_wp2_with fail
  go_loopw [13] (fun v wr => ∃ i : Nat, v = .int .i64 (i : Int) ∧ i ≤ n ∧ Hid (WS F b w1 (l ++ encU n ++ encF encT (ks.take i)) wr)) (fun v _ => n - (intOf v).toNat)
  case atStart => exact ⟨0, rfl, by omega, Lib.hid (by simpa [encF] using H2.out)⟩
  case round =>
    obtain ⟨i, rfl, hi, HW⟩ := hrel
    by_cases hlt : i < n
    · have t1 : decide ((i : Int) < (n : Int)) = true := by simpa using hlt
      have hi0 : (0 : Int) ≤ (i : Int) := by omega
      have hi1 : (i : Int) < (n : Int) := by omega
      have hki : i < ks.length := by rw [← HN.out]; exact hlt
      obtain ⟨g, off, ha, hg, hb, hc⟩ := texts_cell (HKEEP.out _ _ HW.out) hki
      subst ha
      have hle := texts_each hki
      have hsl := encT_le ks[i]
      have hbd := HL.out
      rw [HQ.out] at hbd
      have ht := wText_s ks[i] F b w1 _ wr HW.out (by omega) (by simp only [List.length_append]; omega)
      rw [List.append_assoc (l ++ encU n), ← encF_take encT ks i hki] at ht
      generalize ks[i] = s at *
      have HT := Lib.hid ht; clear ht hle hsl hbd hg hb hki
      go_wp2_with fail
      refine HT.out.mono ?_
      rintro e w3 ⟨rfl, h3⟩
      have H3 := Lib.hid h3; clear h3
      go_wp2_with fail
      go_roundw
      case rel => exact ⟨i + 1, by simp [go_sem], by omega, H3⟩
      case measure => simp [intOf]; omega
    · have t1 : decide ((i : Int) < (n : Int)) = false := by simp; omega
      obtain rfl : i = n := by omega
      have HZ := Lib.hid (HQ2.out _ (HFIN.out _ HW.out))
      go_wp2_with fail
      go_end0
      exact ⟨rfl, HZ.out⟩
set_option maxHeartbeats 4000000 in
theorem rTexts (ks : List (List UInt8)) (a : Option Addr) (c : Nat) (G : Nat → Prop) (w : World) (hk : ListAt 1 TextP w G a ks) (hks : ks.length ≤ 1000000) (hl : (encQ encT ks).length ≤ 1000000000) :
    Calls Try.prog 75 #[.slice a ks.length c] w (Makes w (encQ encT ks)) := by
  obtain ⟨n, hn⟩ : ∃ n, n = ks.length := ⟨_, rfl⟩
  have hq : (encQ encT ks).length = (encU n).length + (encF encT ks).length := by unfold encQ; rw [List.length_append, hn]
  have hfull : encQ encT ks = encU n ++ encF encT (ks.take n) := by unfold encQ; rw [hn, List.take_length]
  rw [← hn] at hks ⊢
  rw [hq] at hl
  rw [hfull]
  have hn0 : (0 : Int) ≤ (n : Int) := by omega
  have hn1 : (n : Int) ≤ 1000000 := by omega
  have hu := rUint n w (by omega)
  have HN := Lib.hid hn; have HU := Lib.hid hu; have HL := Lib.hid hl; have HK := Lib.hid hk
  clear hn hq hu hl hk hfull
  go_enter Try.func75, Try.ntmps75
  go_wp2_with fail
  refine HU.out.mono ?_
  rintro e w2 ⟨v2, rfl, h2, o2⟩
  have H2 := Lib.hid h2; have O2 := Lib.hid o2; clear h2 o2
  go_wp2_with fail
  go_loopw [3, 4] (fun v x wr => ∃ i : Nat, x = .int .i64 (i : Int) ∧ i ≤ n ∧ Hid (Own8 wr w.heap.size v (encU n ++ encF encT (ks.take i))) ∧ Hid (Only (fun _ => False) w wr)) (fun _ x _ => n - (intOf x).toNat)
  case atStart => exact ⟨0, rfl, by omega, Lib.hid (by simpa [encF] using H2.out), O2⟩
  case round =>
    obtain ⟨i, rfl, hi, HW, HO⟩ := hrel
    by_cases hlt : i < n
    · have t1 : decide ((i : Int) < (n : Int)) = true := by simpa using hlt
      have hi0 : (0 : Int) ≤ (i : Int) := by omega
      have hi1 : (i : Int) < (n : Int) := by omega
      have hki : i < ks.length := by rw [← HN.out]; exact hlt
      obtain ⟨g, off, ha, hg, hb, hc⟩ := texts_cell (HK.out.only textP_keeps HO.out (fun _ _ h => h)) hki
      subst ha
      have hle := texts_each hki
      have hsl := encT_le ks[i]
      have hbd := HL.out
      have ht := rText ks[i] wr (by omega)
      have hst := (encF_take encT ks i hki)
      have hln : (encU n ++ encF encT (ks.take i)).length + (encT ks[i]).length ≤ 1000000000 := by rw [List.length_append]; omega
      generalize ks[i] = s at *
      have HT := Lib.hid ht; have HST := Lib.hid hst; have HLN := Lib.hid hln; clear ht hle hsl hbd hg hb hki hst hln
      go_wp2_with fail
      refine HT.out.mono ?_
      rintro e w3 ⟨v3, rfl, h3, o3⟩
      have H3 := Lib.hid h3; have O3 := Lib.hid o3; clear h3 o3 hc
      go_wp2_with ((refine wpList_append8 (o := ⟨some 21, _, _, _, _, _⟩) rfl (.tmp 15) (.tmp 20) (by rfl) w.heap.size _ _ (encU n ++ encF encT (ks.take i)) (encT s) (by rfl) (by rfl) (HW.out.still O3.out) H3.out.bytes (by have := HLN.out; omega) (Nat.le_trans HO.out.size O3.out.size) ?_; intro L a3 c3 w4 hL h4 g4))
      go_roundw
      case rel => exact ⟨i + 1, by simp [go_sem], by omega, Lib.hid (by rw [HST.out, ← List.append_assoc, ← hL.out]; exact h4.out), Lib.hid (g4.out.step (HO.out.trans O3.out) (fun k hk => .inr ((HW.out.still O3.out).ge hk).1))⟩
      case measure => simp [intOf]; omega
    · have t1 : decide ((i : Int) < (n : Int)) = false := by simp; omega
      obtain rfl : i = n := by omega
      go_wp2_with fail
      go_ret
      exact ⟨_, rfl, HW.out, HO.out⟩
/-- Are texts at most so many, of so many bytes? -/
def shortB (ks : List (List UInt8)) (most long : Nat) : Bool := ks.all (fun s => decide (s.length ≤ long)) && decide (ks.length ≤ most)
theorem shortB_iff {ks : List (List UInt8)} {most long : Nat} : shortB ks most long = true ↔ (∀ s ∈ ks, s.length ≤ long) ∧ ks.length ≤ most := by
  simp [shortB]
set_option maxHeartbeats 4000000 in
theorem short_any (ks : List (List UInt8)) (a : Option Addr) (c most long : Nat) (G : Nat → Prop) (w : World) (hk : ListAt 1 TextP w G a ks) (hks : ks.length ≤ 9223372036854775807) (hm : most ≤ 1000000) (hlo : long ≤ 1000000) (hb : ∀ s ∈ ks, s.length ≤ 9223372036854775807) :
    Calls Try.prog 50 #[.slice a ks.length c, .int .i64 most, .int .i64 long] w fun e w' => e = .returned (.bool (shortB ks most long)) ∧ w = w' := by
  obtain ⟨n, hn⟩ : ∃ n, n = ks.length := ⟨_, rfl⟩
  obtain ⟨r, hr⟩ : ∃ r, r = shortB ks most long := ⟨_, rfl⟩
  have hr2 : r = (ks.all (fun s => decide (s.length ≤ long)) && decide (n ≤ most)) := by rw [hr, hn]; rfl
  rw [← hr]
  rw [← hn] at hks ⊢
  have HN := Lib.hid hn; have HR := Lib.hid hr2; have HK := Lib.hid hk; have HB := Lib.hid hb; clear hn hr hr2 hk hb
  have hn0 : (0 : Int) ≤ (n : Int) := by omega
  have hn1 : (n : Int) ≤ 9223372036854775807 := by omega
  have hm0 : (0 : Int) ≤ (most : Int) := by omega
  have hm1 : (most : Int) ≤ 1000000 := by omega
  have hl0 : (0 : Int) ≤ (long : Int) := by omega
  have hl1 : (long : Int) ≤ 1000000 := by omega
  go_enter Try.func50, Try.ntmps50
  go_wp2_with fail
  go_loopw [7] (fun v wr => ∃ i : Nat, v = .int .i64 (i : Int) ∧ i ≤ n ∧ Hid (∀ j (hj : j < ks.length), j < i → ks[j].length ≤ long) ∧ Hid (w = wr)) (fun v _ => n - (intOf v).toNat)
  case atStart => exact ⟨0, rfl, by omega, Lib.hid (fun j _ h => by omega), Lib.hid rfl⟩
  case round =>
    obtain ⟨i, rfl, hi, HA, HO⟩ := hrel
    by_cases hlt : i < n
    · have t1 : decide ((i : Int) < (n : Int)) = true := by simpa using hlt
      have hi0 : (0 : Int) ≤ (i : Int) := by omega
      have hi1 : (i : Int) < (n : Int) := by omega
      have hki : i < ks.length := by rw [← HN.out]; exact hlt
      obtain ⟨g, off, ha, hg, hbk, hc⟩ := texts_cell (show ListAt 1 TextP wr G a ks from HO.out ▸ HK.out) hki
      subst ha
      have hsb := HB.out ks[i] (List.getElem_mem _)
      have hnext : ks[i].length ≤ long → ∀ j (hj : j < ks.length), j < i + 1 → ks[j].length ≤ long := fun h j hj hji => by
        by_cases e : j = i
        · subst e; exact h
        · exact HA.out j hj (by omega)
      have hno : long < ks[i].length → r = false := fun h => by
        rw [HR.out, Bool.and_eq_false_iff]
        left
        rw [List.all_eq_false]
        exact ⟨ks[i], List.getElem_mem _, by simp; omega⟩
      have hsz : (⟨(ks[i]).toArray⟩ : ByteArray).size = ks[i].length := by simp [ByteArray.size]
      generalize ks[i] = s at *
      have hs0 : (0 : Int) ≤ (s.length : Int) := by omega
      have hs1 : (s.length : Int) ≤ 9223372036854775807 := by omega
      have HNX := Lib.hid hnext; have HNO := Lib.hid hno; clear hnext hno hg hbk hki hsb
      by_cases hle : long < s.length
      · have t2 : decide ((long : Int) < (s.length : Int)) = true := by simp; omega
        have t3 : decide (long < s.length) = true := by simpa using hle
        have HF := Lib.hid (HNO.out hle)
        clear hle
        go_wp2_with fail
        go_ret
        exact ⟨by rw [HF.out]; rfl, HO.out⟩
      · have t2 : decide ((long : Int) < (s.length : Int)) = false := by simp; omega
        have t3 : decide (long < s.length) = false := by simpa using hle
        have HF := Lib.hid (HNX.out (by omega))
        clear hle
        go_wp2_with fail
        go_roundw
        case rel => exact ⟨i + 1, by simp [go_sem], by omega, HF, HO⟩
        case measure => simp [intOf]; omega
    · have t1 : decide ((i : Int) < (n : Int)) = false := by simp; omega
      obtain rfl : i = n := by omega
      have hres : r = decide ((i : Int) ≤ (most : Int)) := by
        have hall : ks.all (fun s => decide (s.length ≤ long)) = true := by
          rw [List.all_eq_true]
          intro s hs
          obtain ⟨j, hj, rfl⟩ := List.getElem_of_mem hs
          simpa using HA.out j hj (by have := HN.out; omega)
        rw [HR.out, hall, Bool.true_and]
        exact decide_eq_decide.2 (by omega)
      have HRES := Lib.hid hres; clear hres
      go_wp2_with fail
      go_ret
      exact ⟨by rw [HRES.out]; simp, HO.out⟩
end Go.Proofs.Ytoojnpafcdaflaa
